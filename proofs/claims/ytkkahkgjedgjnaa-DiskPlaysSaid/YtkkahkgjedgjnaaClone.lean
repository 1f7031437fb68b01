/-
  Clone of the package disk.
-/
import Derived.Test.YtkkahkgjedgjnaaDisk6
namespace Go.Proofs.Ytkkahkgjedgjnaa
open Go.RowKit
set_option linter.unusedVariables false
set_option linter.unusedSimpArgs false

theorem Fr.step0 {S : List Nat} {a b c : World} (h : Fr S a b) (k : Fr [] b c) : Fr S a c := h.step k (fun x hx => by simp at hx)

theorem clone_secs2 (w : World) (S cap : Nat) (cur : Array Value) (sec : List ByteArray) (hh : w.heap[S]? = some (.cells cur 95 (0, 0))) (hs : Secs cur cap sec) (h1 : 1 ≤ sec.length) (h2 : sec.length ≤ 1026) :
    Calls Try.prog 56 #[.slice (some ⟨S, 0, none⟩) sec.length cap] w fun e w' => ∃ g cap' cur', e = .returned (.slice (some ⟨g, 0, none⟩) sec.length cap') ∧ Fr [] w w' ∧ w'.heap[g]? = some (.cells cur' 95 (0, 0)) ∧ Secs cur' cap' sec ∧ w.heap.size ≤ g := by
  have hsz : sec.length * 128 ≤ cur.size := by rw [hs.sz]; exact Nat.mul_le_mul_right _ hs.le
  have hcell : ∀ j, j < sec.length * 128 → cur[j]? = some (.int .u8 (sget (sAt sec (j / 128)) (j % 128))) := fun j hj => by
    have := hs.at_ (j / 128) (by omega) (j % 128) (by omega)
    rw [show j / 128 * 128 + j % 128 = j by omega] at this
    exact this
  have hown : w.ownsRow 0 95 128 (.slice (some ⟨S, 0, none⟩) sec.length cap) sec.length (cur.toList.take (sec.length * 128)) :=
    ⟨by simp; omega, .inr ⟨S, cap, cur, rfl, Nat.zero_le _, hh, hs.le, hs.mx, hs.sz, rfl⟩⟩
  refine (clone_secs w _ _ _ hown (fun u hu => ?_) (by omega)).mono ?_
  · obtain ⟨j, hj⟩ := List.mem_iff_getElem?.1 hu
    have hjl : j < sec.length * 128 := by
      rcases Nat.lt_or_ge j (sec.length * 128) with h | h
      · exact h
      · rw [List.getElem?_eq_none (by simp; omega)] at hj; simp at hj
    rw [List.getElem?_take_of_lt hjl, Array.getElem?_toList, hcell j hjl] at hj
    simp only [Option.some.injEq] at hj
    subst hj; rfl
  rintro e w' ⟨v', rfl, hF, ho, hb, hn⟩
  obtain ⟨hl, ho⟩ := ho
  rcases ho with ⟨rfl, h0⟩ | ⟨g, cap', cur', rfl, _, hg, hle, hmx, hcs, htk⟩
  · omega
  refine ⟨g, cap', cur', rfl, hF, hg, ⟨hle, hmx, hcs, fun i hi j hj => ?_⟩, hb g (by simp [Value.ownBlock])⟩
  have hij : i * 128 + j < sec.length * 128 := by omega
  have e1 : cur'[i * 128 + j]? = cur[i * 128 + j]? := by
    rw [← Array.getElem?_toList, ← List.getElem?_take_of_lt (i := i * 128 + j) hij, htk, List.getElem?_take_of_lt hij, Array.getElem?_toList]
  rw [e1]
  exact hs.at_ i hi j hj

theorem clone_writes2 (w : World) (a : Option Addr) (n c : Nat) (xs : List Value) (h : w.ownsRow 0 56 2 (.slice a n c) n xs) (hone : ∀ u ∈ xs, u.oneCell' = true) (hn : n * 24 ≤ 140737488355328) :
    Calls Try.prog 53 #[.slice a n c] w fun e w' => ∃ a' c', e = .returned (.slice a' n c') ∧ Fr [] w w' ∧ w'.ownsRow 0 56 2 (.slice a' n c') n xs ∧ (∀ x, x ∈ (Value.slice a' n c').ownBlock.toList → w.heap.size ≤ x) := by
  refine (clone_writes w _ n xs h hone hn).mono ?_
  rintro e w' ⟨v', rfl, hF, ho, hb, _⟩
  rcases owns_one ho with ⟨rfl, rfl, _⟩ | ⟨g, cap, rfl, _, _⟩
  · exact ⟨none, 0, rfl, hF, ho, hb⟩
  · exact ⟨_, _, rfl, hF, ho, hb⟩

/-- While Clone clones: all old blocks are as they were, and the new one is a disk's. -/
def CInv (wA : World) (C : Nat) (wx : World) : Prop := Fr [C] wA wx ∧ ∃ cs : Array Value, wx.heap[C]? = some (.cells cs 92 (0, 0)) ∧ cs.size = 5
theorem CInv.step {wA wx w' : World} {C : Nat} (h : CInv wA C wx) (hF : Fr [] wx w') : CInv wA C w' := by
  obtain ⟨h1, cs, h2, h3⟩ := h
  exact ⟨h1.step0 hF, cs, hF.keep h2 (by simp), h3⟩
theorem CInv.set {wA wx : World} {C i : Nat} (h : CInv wA C wx) (v : Value) : CInv wA C (wx.setCell ⟨C, i, none⟩ v) := by
  obtain ⟨h1, cs, h2, h3⟩ := h
  exact ⟨h1.setCell (.inl (by simp)) v, _, blk_setCell_at v h2, by simpa using h3⟩
theorem CInv.cells {wA wx : World} {C : Nat} (h : CInv wA C wx) : (∃ u, wx.cell? ⟨C, 0, none⟩ = some u) ∧ (∃ u, wx.cell? ⟨C, 1, none⟩ = some u) ∧ wx.frozen? ⟨C, 0, none⟩ = false ∧ wx.frozen? ⟨C, 1, none⟩ = false := by
  obtain ⟨h1, cs, h2, h3⟩ := h
  exact ⟨⟨cs[0], cell_blk h2 (by simp)⟩, ⟨cs[1], cell_blk h2 (by simp)⟩, free_blk h2, free_blk h2⟩

set_option maxHeartbeats 1600000 in
set_option maxRecDepth 100000 in
theorem disk_clone (w : World) (F : List Nat) (D : Nat) (d : DS) (h : Dk w F D d) (hw : d.wf) (hraw : d.raw.length * 24 ≤ 140737488355328) :
    Calls Try.prog 40 #[.pointer (some ⟨D, 0, none⟩)] w fun e w' => ∃ C F', e = .returned (.pointer (some ⟨C, 0, none⟩)) ∧ Fr [] w w' ∧ Dk w' F' C d ∧ ∀ x, x ∈ F' → w.heap.size ≤ x := by
  have hn2 := hw.n2
  have hd := h.lt D (by obtain ⟨S, cap, rv, cur, rfl, _⟩ := h; simp)
  obtain ⟨S, dcap, rv, cur, hFeq, g1, g2, g3, g4⟩ := h
  obtain ⟨ra, rc, rfl⟩ : ∃ a c, rv = .slice a d.raw.length c := by
    rcases owns_one g4 with ⟨rfl, h0, _⟩ | ⟨g, cap, rfl, _, _⟩
    · exact ⟨none, 0, by rw [h0]⟩
    · exact ⟨_, _, rfl⟩
  have c0 : w.cell? ⟨D, 0, none⟩ = some (.slice (some ⟨S, 0, none⟩) d.sec.length dcap) := cell_blk g1 rfl
  have c1 : w.cell? ⟨D, 1, none⟩ = some (.slice ra d.raw.length rc) := cell_blk g1 rfl
  have c2 : w.cell? ⟨D, 2, none⟩ = some _ := cell_blk g1 rfl
  have c3 : w.cell? ⟨D, 3, none⟩ = some _ := cell_blk g1 rfl
  have c4 : w.cell? ⟨D, 4, none⟩ = some _ := cell_blk g1 rfl
  have HG := hid (And.intro g1 (And.intro g2 (And.intro g3 g4)))
  clear g1 g2 g3 g4 hFeq
  have hC : (w.alloc (.cells #[.slice (some ⟨S, 0, none⟩) d.sec.length dcap, .slice ra d.raw.length rc, .int .i64 d.armed, .int .i64 d.bytes, .bool d.dead] 92)).heap[w.heap.size]? = _ := blk_alloc_at _ _ _ rfl
  have hFA := (Fr.refl [] w).alloc (.cells #[.slice (some ⟨S, 0, none⟩) d.sec.length dcap, .slice ra d.raw.length rc, .int .i64 d.armed, .int .i64 d.bytes, .bool d.dead] 92)
  have hsA : (w.alloc (.cells #[.slice (some ⟨S, 0, none⟩) d.sec.length dcap, .slice ra d.raw.length rc, .int .i64 d.armed, .int .i64 d.bytes, .bool d.dead] 92)).heap.size = w.heap.size + 1 := by simp
  go_enter Try.func40, Try.ntmps40
  go_wp2_with fail
  generalize (w.alloc (.cells #[.slice (some ⟨S, 0, none⟩) d.sec.length dcap, .slice ra d.raw.length rc, .int .i64 d.armed, .int .i64 d.bytes, .bool d.dead] 92)) = wA at hC hFA hsA ⊢
  have k0 := hFA.cell0 c0
  have k1 := hFA.cell0 c1
  have hSC : S < w.heap.size := lt_of_block HG.out.2.1
  have HSecs : ∀ wx, CInv wA.drew w.heap.size wx → Calls Try.prog 56 #[.slice (some ⟨S, 0, none⟩) d.sec.length dcap] wx fun e w' => ∃ g cap' cur', e = .returned (.slice (some ⟨g, 0, none⟩) d.sec.length cap') ∧ Fr [] wx w' ∧ (w'.heap[g]? = some (.cells cur' 95 (0, 0)) ∧ Secs cur' cap' d.sec ∧ wx.heap.size ≤ g) :=
    fun wx hx => (clone_secs2 wx S dcap cur d.sec (hx.1.keep (w := wA.drew) (show wA.drew.heap[S]? = _ from hFA.keep HG.out.2.1 (by simp)) (by simp; omega)) HG.out.2.2.1 hw.n1 hn2).mono fun e w' ⟨g, c, r, h1, h2, h3, h4, h5⟩ => ⟨g, c, r, h1, h2, h3, h4, h5⟩
  have HWrs : ∀ wx, CInv wA.drew w.heap.size wx → Calls Try.prog 53 #[.slice ra d.raw.length rc] wx fun e w' => ∃ a' c', e = .returned (.slice a' d.raw.length c') ∧ Fr [] wx w' ∧ (w'.ownsRow 0 56 2 (.slice a' d.raw.length c') d.raw.length (rawCells d.raw) ∧ (∀ x, x ∈ (Value.slice a' d.raw.length c').ownBlock.toList → wx.heap.size ≤ x)) :=
    fun wx hx => clone_writes2 wx ra _ rc _ (owns_keep (owns_keep (S := []) HG.out.2.2.2 hFA.drew (by simp)) hx.1 (fun g hg h => by have := owns_lt HG.out.2.2.2 g hg; simp at h; omega)) (rawCells_one _) hraw
  have hDC : D < w.heap.size := hd
  have HD : Hid (∀ wx, CInv wA.drew w.heap.size wx → wx.cell? ⟨D, 0, none⟩ = some (.slice (some ⟨S, 0, none⟩) d.sec.length dcap) ∧ wx.cell? ⟨D, 1, none⟩ = some (.slice ra d.raw.length rc)) :=
    hid fun wx hx => ⟨hx.1.cell (w := wA.drew) k0 (by simp; omega), hx.1.cell (w := wA.drew) k1 (by simp; omega)⟩
  have HSecs := hid HSecs
  have HWrs := hid HWrs
  have H0 : Hid (CInv wA.drew w.heap.size wA.drew) := hid ⟨Fr.refl _ _, _, hC, rfl⟩
  have HK := hid (And.intro hC (And.intro hFA hsA))
  obtain ⟨⟨x0, e0⟩, ⟨x1, e1⟩, f0, f1⟩ := H0.out.cells
  clear hC hFA hsA c0 c1 c2 c3 c4
  go_region_with (first
    | (go_at_call 56; refine (HSecs.out _ (by first | exact H0.out | exact HB0.out | exact HB0.out.set _)).mono ?_; rintro e w4 ⟨g, cg, cur', rfl, hF4, hA4⟩; have HA0 := hid (CInv.step (by first | exact H0.out | exact HB0.out | exact HB0.out.set _) hF4); have HFA := hid hF4; have HA := hid hA4; obtain ⟨⟨y0, e2⟩, ⟨y1, e3⟩, f2, f3⟩ := HA0.out.cells; obtain ⟨e4, e5⟩ := HD.out _ HA0.out; clear hF4 hA4)
    | (go_at_call 53; refine (HWrs.out _ (by first | exact H0.out | exact HA0.out | exact HA0.out.set _)).mono ?_; rintro e w5 ⟨a', ca', rfl, hF5, hB5⟩; have HB0 := hid (CInv.step (by first | exact H0.out | exact HA0.out | exact HA0.out.set _) hF5); have HFB := hid hF5; have HB := hid hB5; obtain ⟨⟨z0, l2⟩, ⟨z1, l3⟩, j2, j3⟩ := HB0.out.cells; obtain ⟨l4, l5⟩ := HD.out _ HB0.out; clear hF5 hB5))
  all_goals
    have hsz4 : w.heap.size + 1 ≤ w4.heap.size := by have h1 := HFA.out.size; have h2 := HK.out.2.2; have h3 : wA.drew.heap.size = wA.heap.size := rfl; omega
    have hgC : w.heap.size + 1 ≤ g := by have h1 := HA.out.2.2; have h2 := HK.out.2.2; have h3 : wA.drew.heap.size = wA.heap.size := rfl; omega
    have hbC : ∀ x, x ∈ (Value.slice a' d.raw.length ca').ownBlock.toList → w.heap.size + 1 ≤ x := fun x hx => by
      have := HB.out.2 x hx
      try simp [World.setCell] at this
      omega
    have HN := hid (And.intro hgC hbC)
    clear hsz4 hgC hbC e0 e1 f0 f1 e2 e3 f2 f3 e4 e5 l2 l3 j2 j3 l4 l5
    go_wp2_with fail
    go_ret
    refine ⟨w.heap.size, _, rfl, ?_, ⟨g, cg, .slice a' d.raw.length ca', cur', rfl, ?_, ?_, HA.out.2.1, ?_⟩, ?_⟩
    · refine HK.out.2.1.drew.step (S' := [w.heap.size]) ?_ (fun x hx => .inr (by simp at hx; omega))
      repeat first | exact HB0.out.1 | refine Fr.setCell ?_ (.inl (by simp)) _
    · first
        | exact blk_setCell_at _ (blk_setCell_at _ (HFB.out.keep (HFA.out.keep (w := wA.drew) HK.out.1 (by simp)) (by simp)))
        | exact blk_setCell_at _ (HFB.out.keep (blk_setCell_at _ (HFA.out.keep (w := wA.drew) HK.out.1 (by simp))) (by simp))
    · have hne : g ≠ w.heap.size := by have := HN.out.1; omega
      repeat first | exact HA.out.1 | refine blk_setCell_ne _ ?_ hne | refine HFB.out.keep ?_ (by simp)
    · refine owns_keep (S := [w.heap.size]) HB.out.1 ?_ (fun x hx h => by have := HN.out.2 x hx; simp at h; omega)
      repeat first | exact Fr.refl _ _ | refine Fr.setCell ?_ (.inl (by simp)) _
    · intro x hx
      simp only [List.mem_cons] at hx
      rcases hx with rfl | rfl | hx
      · exact Nat.le_refl _
      · have := HN.out.1; omega
      · have := HN.out.2 x hx; omega

end Go.Proofs.Ytkkahkgjedgjnaa
