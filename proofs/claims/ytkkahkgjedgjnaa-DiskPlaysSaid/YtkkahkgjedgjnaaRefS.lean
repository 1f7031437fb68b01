/-
  The document's disk, over a world that holds things.
-/
import Derived.Test.YtkkahkgjedgjnaaDiskS
import Derived.Test.YtkkahkgjedgjnaaPlace04
import Derived.Outline
import Derived.RegionTactic
namespace Go.Proofs.Ytkkahkgjedgjnaa
open Go.RowKit
set_option linter.unusedVariables false
set_option linter.unusedSimpArgs false

/-- The document's disk: its block; its lists are read alone. -/
def XkT (X : Nat) (d : DS) : Thing := fun w F G => ∃ sv rv : Value, F = [X] ∧ G = sv.ownBlock.toList ++ rv.ownBlock.toList ∧
  w.heap[X]? = some (.cells #[sv, rv, .int .i64 d.armed, .int .i64 d.bytes, .bool d.dead] 88 (0, 0)) ∧
  w.ownsRow 0 9 1 sv d.sec.length (strs d.sec d.sec.length) ∧ w.ownsRow 0 56 2 rv d.raw.length (rawCells d.raw)
instance (X : Nat) (d : DS) : Loc (XkT X d) where
  keep := fun ⟨sv, rv, h1, h2, h3, h4, h5⟩ hF hd hg => ⟨sv, rv, h1, h2, hF.keep h3 (hd _ (by simp [h1])), owns_keep h4 hF (fun g h => hg g (by simp only [h2, List.mem_append]; exact .inl h)), owns_keep h5 hF (fun g h => hg g (by simp only [h2, List.mem_append]; exact .inr h))⟩
  lt := fun ⟨sv, rv, h1, h2, h3, h4, h5⟩ => ⟨fun x hx => by subst h1; simp at hx; subst hx; exact lt_of_block h3, fun x hx => by
    subst h2
    rcases List.mem_append.1 hx with h | h
    · exact owns_lt h4 x h
    · exact owns_lt h5 x h⟩

theorem strs_set (ss : List ByteArray) (k n : Nat) (y : ByteArray) (hk : k < ss.length) (hn : n = ss.length) : (strs ss n).set k (.string y) = strs (ss.set k y) n := by
  subst hn
  refine List.ext_getElem? fun j => ?_
  rcases Nat.lt_or_ge j ss.length with h | h
  · rw [strs_get _ _ _ h, List.getElem?_set]
    unfold strV
    rw [sAt_set _ _ _ _ hk]
    by_cases hj : j = k
    · subst hj; rw [if_pos rfl, if_pos (by rw [strs_len]; exact hk), if_pos rfl]
    · rw [if_neg (Ne.symm hj), if_neg hj, strs_get _ _ _ h]; rfl
  · rw [List.getElem?_eq_none (by rw [List.length_set, strs_len]; exact h), List.getElem?_eq_none (by rw [strs_len]; exact h)]

set_option maxHeartbeats 800000 in
set_option maxRecDepth 100000 in
theorem ref_laid (w : World) (a : Option Addr) (cap : Nat) (ss : List ByteArray) (h : In w 1 a ss.length cap (strV ss)) (k kb : Nat) (data : ByteArray) (hk : k < ss.length) (hn : ss.length ≤ 1026) (hd : data.size = 128) (hs : (sAt ss k).size = 128) (hb : kb ≤ 128) :
    Calls Try.prog 64 #[.slice a ss.length cap, .int .i64 k, .string data, .int .i64 kb] w fun e w' => ∃ g cap', e = .returned (.slice (some ⟨g, 0, none⟩) ss.length cap') ∧ Fr [] w w' ∧ w.heap.size ≤ g ∧
      w'.ownsRow 0 9 1 (.slice (some ⟨g, 0, none⟩) ss.length cap') ss.length (strs (ss.set k (cutB data (sAt ss k) kb)) ss.length) := by
  have hm := h.max
  obtain ⟨b, off, rfl⟩ := h.sm (by omega)
  have c0 := h.cell b off rfl k (by omega)
  have H := hid h
  obtain ⟨i0, hi, hz0, hz1, hz2⟩ := info_parts info_string
  have HI := hid (And.intro hi (And.intro hz0 (And.intro hz1 hz2)))
  clear hi hz0 hz1 hz2 h
  go_enter Try.func64, Try.ntmps64
  go_wp2_with (at_builtin; refine wpList_copied rfl (.tmp 10) (.tmp 11) 46 rfl 9 i0 (.string ByteArray.empty) 1 16 Try.underlying46 HI.out.1 HI.out.2.1 HI.out.2.2.1 HI.out.2.2.2 rfl (by decide) w.heap.size rfl (blk_alloc_at _ _ _ rfl) (some ⟨b, off, none⟩) ss.length cap (strV ss) rfl ?qa (fun j _ => strV_one _ j) (by omega) ?_)
  case qa => exact H.out.fr0 ((Fr.refl [] w).alloc _)
  intro g cg w1 ho hF1 hg
  replace ho : w1.ownsRow 0 9 1 (.slice (some ⟨g, 0, none⟩) ss.length cg) ss.length (strs ss ss.length) := ho
  have hF : Fr [] w w1 := ((Fr.refl [] w).alloc (.cells #[] 9)).step hF1 (by intro x hx; simp at hx; subst hx; exact .inr (Nat.le_refl _))
  have hg' : w.heap.size ≤ g := by rcases hg with h | h <;> omega
  have c1 := hF.cell0 c0
  simp only [strV] at c1
  have hW := owns_W ho (strV ss) (fun j hj => strs_get _ _ j (by omega))
  have d1 := hW.cell k (by omega)
  have f1 := hW.free k
  rw [Nat.zero_add] at d1 f1
  generalize hx : sAt ss k = x at c1 hs
  have HX := hid (And.intro ho (And.intro hF (And.intro hg' hx)))
  have hk0 : (0 : Int) ≤ kb := by omega
  have hk1 : (kb : Int) ≤ data.size := by omega
  have hk2 : (kb : Int) ≤ x.size := by omega
  have hk3 : ¬ 9223372036854775807 < min kb data.size + (x.size - kb) := by omega
  clear ho hF hF1 hg hg' hW c0 hx hd hs
  go_wp2
  go_region
  go_wp2
  go_ret
  have hc : cutB data (sAt ss k) kb = data.extract 0 kb ++ x.extract kb x.size := by rw [HX.out.2.2.2]; rfl
  rw [hc, ← strs_set ss k ss.length _ hk rfl]
  exact ⟨g, cg, rfl, (HX.out.2.1.setCell (.inr HX.out.2.2.1) _).drew, HX.out.2.2.1, ownsRow_drew (ownsRow_set HX.out.1 k _)⟩

theorem owns_In {w : World} {B size n : Nat} {e : TypeId} {v : Value} {xs : List Value} (h : w.ownsRow B e size v n xs) (V : Nat → Value) (hV : ∀ j, j < n * size → xs[j]? = some (V j)) : ∃ a c, v = .slice a n c ∧ In w size a n c V ∧ (∀ b off, a = some ⟨b, off, none⟩ → b ∈ v.ownBlock.toList) := by
  rcases owns_one h with ⟨rfl, rfl, rfl⟩ | ⟨g, cap, rfl, _, _⟩
  · exact ⟨none, 0, rfl, ⟨Nat.le_refl _, by decide, fun h => absurd h (Nat.lt_irrefl _), fun b off e => by cases e⟩, fun b off e => by cases e⟩
  · exact ⟨_, _, rfl, owns_in h V hV, fun b off e => by cases e; simp [Value.ownBlock]⟩

section
variable {W : Base} {w : World} {R : List Thing}

set_option maxHeartbeats 1600000 in
set_option maxRecDepth 100000 in
theorem st_ref_write (H : St W w R) (i : Nat) {X : Nat} {d : DS} (hi : R[i]? = some (XkT X d)) (k : Int) (s : ByteArray) (hw : d.wf) (hn : (d.raw.length + 1) * 24 ≤ 140737488355328) :
    Calls Try.prog 66 #[.pointer (some ⟨X, 0, none⟩), .int .i64 k, .string s] w fun e w' => e = .returned (.int .i64 (d.write k s).1) ∧ St W w' (R.set i (XkT X (d.write k s).2)) := by
  have hn1 := hw.n1
  have hn2 := hw.n2
  have HS := hid (H.set_self hi)
  obtain ⟨F, G, ⟨sv, rv, hF, hG, hX, hS, hR⟩, hFW, hd, hback⟩ := H.atG i hi
  subst hF hG
  obtain ⟨g, cap, rfl⟩ := owns_shape hS (by omega)
  have hIn := owns_in hS (strV d.sec) (fun j hj => strs_get _ _ j (by omega))
  have hdX := hd X (by simp)
  have c0 : w.cell? ⟨X, 0, none⟩ = some (.slice (some ⟨g, 0, none⟩) d.sec.length cap) := cell_blk hX rfl
  have c1 : w.cell? ⟨X, 1, none⟩ = some rv := cell_blk hX rfl
  have c2 : w.cell? ⟨X, 2, none⟩ = some (.int .i64 d.armed) := cell_blk hX rfl
  have c3 : w.cell? ⟨X, 3, none⟩ = some (.int .i64 d.bytes) := cell_blk hX rfl
  have c4 : w.cell? ⟨X, 4, none⟩ = some (.bool d.dead) := cell_blk hX rfl
  have HB := hid (And.intro hX (And.intro hS (And.intro hR (And.intro hback hdX))))
  have HI := hid hIn
  have hF0 : ∀ (n : Nat), w.frozen? ⟨X, n, none⟩ = false := fun n => free_blk hX
  have f0 := hF0 0
  have f2 := hF0 2
  clear hback hd hX hS hR hIn hdX hFW hF0 H hi
  by_cases hdead : d.dead = true
  · have hr : d.write k s = (2, d) := by unfold DS.write; rw [if_pos hdead]
    rw [hr]
    rw [hdead] at c4
    clear hr hdead c0 c1 c2 c3 HB HI
    go_enter Try.func66, Try.ntmps66
    go_wp2
    go_ret
    exact ⟨rfl, HS.out⟩
  have hdead' : d.dead = false := by simpa using hdead
  rw [hdead'] at c4
  by_cases hk : k < 0 ∨ d.sec.length ≤ k
  · have hr : d.write k s = (40, d) := by unfold DS.write; rw [if_neg hdead, if_pos hk]
    rw [hr]
    clear hr hdead hdead' c1 c2 c3 HB
    by_cases hk0 : k < 0
    · clear HI hk
      go_enter Try.func66, Try.ntmps66
      go_wp2
      go_ret
      exact ⟨rfl, HS.out⟩
    · have hk1 : (d.sec.length : Int) ≤ k := by omega
      clear HI hk
      go_enter Try.func66, Try.ntmps66
      go_wp2
      go_ret
      exact ⟨rfl, HS.out⟩
  obtain ⟨kk, rfl⟩ : ∃ kk : Nat, k = kk := ⟨k.toNat, by omega⟩
  have hk0 : ¬ ((kk : Int) < 0) := by omega
  have hk1 : ¬ ((d.sec.length : Int) ≤ kk) := by omega
  have hk2 : kk < d.sec.length := by omega
  by_cases hs : s.size ≠ 128
  · have hr : d.write kk s = (41, d) := by unfold DS.write; rw [if_neg hdead, if_neg hk, if_pos hs]
    rw [hr]
    have hs1 : ((s.size : Int) == 128) = false := by rw [beq_eq_false_iff_ne]; omega
    have hs2 : ((s.size : Int) != 128) = true := by rw [bne_iff_ne]; omega
    clear hr hdead hdead' c1 c2 c3 HB HI hk hs
    go_enter Try.func66, Try.ntmps66
    go_wp2
    go_ret
    exact ⟨rfl, HS.out⟩
  have hs' : s.size = 128 := by omega
  have hs1 : ((s.size : Int) == 128) = true := by rw [beq_iff_eq]; omega
  have hs2 : ((s.size : Int) != 128) = false := by rw [bne_eq_false_iff_eq]; omega
  by_cases ha : d.armed = 1
  · obtain ⟨kb, hkb⟩ : ∃ kb : Nat, d.bytes = kb := ⟨d.bytes.toNat, by have := hw.b0; omega⟩
    have hkb2 : kb ≤ 128 := by have := hw.b1; omega
    have hr : d.write kk s = (2, { d with sec := d.sec.set kk (cutB s (sAt d.sec kk) kb), dead := true }) := by
      unfold DS.write; rw [if_neg hdead, if_neg hk, if_neg hs, if_pos ha, hkb]; rfl
    rw [hr]
    rw [ha] at c2
    rw [hkb] at c3
    have HL := hid (fun w1 (h1 : In w1 1 (some ⟨g, 0, none⟩) d.sec.length cap (strV d.sec)) => ref_laid w1 _ cap d.sec h1 kk kb s hk2 hn2 hs' (hw.sz kk hk2) hkb2)
    have HA := hid (And.intro ha hkb)
    clear hr hdead hdead' c1 hk hs hs' ha hkb
    go_enter Try.func66, Try.ntmps66
    go_wp2_with fail
    go_region_with (go_at_call 64; refine (HL.out _ (HI.out.fr0 ((Fr.refl [] w).drew))).mono ?_; rintro e w1 ⟨g1, cap1, rfl, hF1, hg1, ho1⟩; have e0 := hF1.cell0 (w := w.drew) c0; have j0 := free_blk (i := 0) (hF1.keep (w := w.drew) HB.out.1 (by simp)))
    all_goals
      have hX1 := hF1.keep (w := w.drew) HB.out.1 (by simp)
      have hR1 := owns_keep (S := []) HB.out.2.2.1 ((Fr.refl [] w).drew.trans hF1) (by simp)
      have HZ := hid (And.intro hX1 (And.intro hR1 (And.intro hF1 (And.intro hg1 ho1))))
      clear hX1 hR1 hF1 hg1 ho1
      have hX2 : (w1.setCell ⟨X, 0, none⟩ (.slice (some ⟨g1, 0, none⟩) d.sec.length cap1)).heap[X]? = some (.cells #[.slice (some ⟨g1, 0, none⟩) d.sec.length cap1, rv, .int .i64 d.armed, .int .i64 d.bytes, .bool d.dead] 88 (0, 0)) := by
        rw [blk_setCell_at _ HZ.out.1]; simp
      have hF2 : Fr [X] w (w1.setCell ⟨X, 0, none⟩ (.slice (some ⟨g1, 0, none⟩) d.sec.length cap1)) := (((Fr.refl _ w).drew).step HZ.out.2.2.1 (by simp)).setCell (.inl (by simp)) _
      have hS2 := owns_keep (S := [X]) HZ.out.2.2.2.2 ((Fr.refl _ w1).setCell (p := ⟨X, 0, none⟩) (.inl (by simp)) (.slice (some ⟨g1, 0, none⟩) d.sec.length cap1)) (by have h1 := HZ.out.2.2.2.1; have h2 := lt_of_block HB.out.1; intro q hq; simp [Value.ownBlock] at hq; subst hq; simp; exact fun e => by subst e; exact absurd h2 (Nat.not_lt.2 h1))
      have hR2 := owns_keep (S := [X]) HZ.out.2.1 ((Fr.refl _ w1).setCell (p := ⟨X, 0, none⟩) (.inl (by simp)) (.slice (some ⟨g1, 0, none⟩) d.sec.length cap1)) (by intro q hq; have := HB.out.2.2.2.2; simp at this; simp; exact fun e => this.2 (by subst e; simpa using hq))
      generalize w1.setCell ⟨X, 0, none⟩ (.slice (some ⟨g1, 0, none⟩) d.sec.length cap1) = w2 at hX2 hF2 hS2 hR2 ⊢
      have e4 : ∃ u, w2.cell? ⟨X, 4, none⟩ = some u := ⟨_, cell_blk hX2 rfl⟩
      have e5 : w2.frozen? ⟨X, 4, none⟩ = false := free_blk hX2
      obtain ⟨u4, e4⟩ := e4
      have HY := hid (And.intro hX2 (And.intro hF2 (And.intro hS2 hR2)))
      clear hX2 hF2 hS2 hR2
      go_wp2_with fail
      go_ret
      obtain ⟨y1, y2, y3, y4⟩ := HY.out
      obtain ⟨b1, b2, b3, hback, hdX⟩ := HB.out
      obtain ⟨z1, z2, z3, z4, z5⟩ := HZ.out
      have hXl := lt_of_block b1
      have hg1 : w.heap.size ≤ g1 := z4
      have hdr : X ∉ rv.ownBlock.toList := fun h => hdX (List.mem_append.2 (.inr h))
      refine ⟨rfl, hback _ [X] ((Value.slice (some ⟨g1, 0, none⟩) d.sec.length cap1).ownBlock.toList ++ rv.ownBlock.toList) _ inferInstance ⟨.slice (some ⟨g1, 0, none⟩) d.sec.length cap1, rv, rfl, rfl, ?_, ?_, ?_⟩ (y2.setCell (.inl (by simp)) _) (fun x hx => .inl hx) (fun x hx => ?_) (fun x hx hg => ?_)⟩
      · rw [blk_setCell_at _ y1]; simp
      · simp only [List.length_set]
        exact owns_keep (S := [X]) y3 ((Fr.refl _ w2).setCell (.inl (by simp)) _) (fun q hq => by simp [Value.ownBlock] at hq; subst hq; simp; omega)
      · exact owns_keep (S := [X]) y4 ((Fr.refl _ w2).setCell (.inl (by simp)) _) (fun q hq => by simp; exact fun e => hdr (by subst e; exact hq))
      · rcases List.mem_append.1 hx with h | h
        · simp [Value.ownBlock] at h; subst h; exact .inr (.inr hg1)
        · exact .inr (.inl (List.mem_append.2 (.inr h)))
      · simp at hx; subst hx
        rcases List.mem_append.1 hg with h | h
        · simp [Value.ownBlock] at h; omega
        · exact hdr h
  obtain ⟨ra, rc, rfl, hIr, hrb⟩ := owns_In HB.out.2.2.1 (wrV d.raw) (fun j hj => rawCells_get _ j hj)
  obtain ⟨i1, hj, hy0, hy1, hy2⟩ := info_parts info_write
  have HJ := hid (And.intro hj (And.intro hy0 (And.intro hy1 hy2)))
  have HIr := hid (And.intro hIr hrb)
  clear hj hy0 hy1 hy2 hIr hrb
  have HC := hid (cutB_full s (sAt d.sec kk) hs' (hw.sz kk hk2))
  by_cases ha2 : 1 < d.armed
  · have hr : d.write kk s = (0, { d with armed := d.armed - 1, sec := d.sec.set kk s, raw := d.raw ++ [((kk : Int), s)] }) := by
      unfold DS.write; rw [if_neg hdead, if_neg hk, if_neg hs, if_neg ha, show max 0 (d.armed - 1) = d.armed - 1 by omega]; rfl
    rw [hr]
    have ha3 := hw.a1
    have HA := hid hr
    clear hr ha
    have hX0 : (w.setCell ⟨X, 2, none⟩ (.int .i64 (d.armed - 1))).heap[X]? = some (.cells #[.slice (some ⟨g, 0, none⟩) d.sec.length cap, .slice ra d.raw.length rc, .int .i64 (d.armed - 1), .int .i64 d.bytes, .bool d.dead] 88 (0, 0)) := by rw [blk_setCell_at _ HB.out.1]; simp
    have hF0 : Fr [X] w (w.setCell ⟨X, 2, none⟩ (.int .i64 (d.armed - 1))) := (Fr.refl _ w).setCell (.inl (by simp)) _
    have hgX : g ∉ [X] := fun h => by simp at h; subst h; exact HB.out.2.2.2.2 (by simp [Value.ownBlock])
    have hrX : ∀ x, x ∈ (Value.slice ra d.raw.length rc).ownBlock.toList → x ∉ [X] := fun x hx h => by simp at h; subst h; exact HB.out.2.2.2.2 (List.mem_append.2 (.inr hx))
    have hI0 := HI.out.fr hF0 (fun b off e => by cases e; exact hgX)
    have hIr0 := HIr.out.1.fr hF0 (fun b off e => hrX b (HIr.out.2 b off e))
    have hXl := lt_of_block HB.out.1
    have hs0 := hF0.size
    have H0 := hid (And.intro hX0 (And.intro hF0 (And.intro hI0 (And.intro hIr0 (And.intro hXl hs0)))))
    have HL := hid (ref_laid (w.setCell ⟨X, 2, none⟩ (.int .i64 (d.armed - 1))) _ cap d.sec hI0 kk 128 s hk2 hn2 hs' (hw.sz kk hk2) (Nat.le_refl _))
    clear hdead hdead' hk hs hs' hX0 hF0 hgX hrX hI0 hIr0 hXl hs0
    go_enter Try.func66, Try.ntmps66
    go_wp2_with fail
    refine HL.out.mono ?_
    rintro e w1 ⟨g1, cap1, rfl, hF1, hg1, ho1⟩
    rw [HC.out] at ho1
    have hX1 := hF1.keep H0.out.1 (by simp)
    have hIr1 := H0.out.2.2.2.1.fr0 hF1
    have e0 := cell_blk (i := 0) hX1 rfl
    have e1 := cell_blk (i := 1) hX1 rfl
    have j0 := free_blk (i := 0) hX1
    have j1 := free_blk (i := 1) hX1
    have hs1 := hF1.size
    have hXl := lt_of_block hX1
    have hX2 := blk_setCell_at (i := 0) (.slice (some ⟨g1, 0, none⟩) d.sec.length cap1) hX1
    have hFs : Fr [X] w1 (w1.setCell ⟨X, 0, none⟩ (.slice (some ⟨g1, 0, none⟩) d.sec.length cap1)) := (Fr.refl _ w1).setCell (.inl (by simp)) _
    have hFa := hFs.alloc (.cells #[] 56)
    have hIa := hIr1.fr hFa (fun b off e h => by simp at h; subst h; exact HB.out.2.2.2.2 (List.mem_append.2 (.inr (HIr.out.2 _ off e))))
    have HZ := hid (And.intro hF1 (And.intro hg1 (And.intro ho1 (And.intro hX2 (And.intro hFa (And.intro hIa (And.intro hs1 hXl)))))))
    clear hF1 hg1 ho1 hX2 hFs hFa hIa hs1 hIr1 hX1
    go_wp2_with (at_builtin; refine wpList_copied rfl (.tmp 70) (.tmp 74) 47 rfl 56 i1 (.agg #[.int .i64 0, .string ByteArray.empty]) 2 24 Try.underlying47 HJ.out.1 HJ.out.2.1 HJ.out.2.2.1 HJ.out.2.2.2 rfl (by decide) w1.heap.size rfl (blk_alloc_at _ _ _ (by simp [World.setCell])) ra d.raw.length rc (wrV d.raw) rfl HZ.out.2.2.2.2.2.1 (fun j _ => wrV_one _ j) (by omega) ?_)
    intro g3 ca3 w3 ho3 hF3 hg3
    rw [range_wrs] at ho3
    have hX3 := hF3.keep (blk_alloc_lt (.cells #[] 56) HZ.out.2.2.2.1) (by simp; omega)
    have e3 := cell_blk (i := 1) hX3 rfl
    have j3 := free_blk (i := 1) hX3
    have hF13 : Fr [X] w1 w3 := HZ.out.2.2.2.2.1.step hF3 (fun x hx => .inr (by simp at hx; omega))
    have hg3' : w1.heap.size ≤ g3 := by rcases hg3 with h | h <;> first | omega | (simp at h; omega)
    have HT := hid (And.intro hX3 (And.intro hF13 (And.intro hg3' ho3)))
    clear hXl hX3 hF13 hg3' ho3 hF3 hg3
    have hXl3 := lt_of_block HT.out.1
    go_wp2_with (at_builtin; refine wpList_append_blk rfl (.tmp 75) (.tmp 79) 47 rfl 56 i1 (.agg #[.int .i64 0, .string ByteArray.empty]) 2 24 Try.underlying47 HJ.out.1 HJ.out.2.1 HJ.out.2.2.1 HJ.out.2.2.2 rfl (by decide) (.slice (some ⟨g3, 0, none⟩) d.raw.length ca3) d.raw.length (rawCells d.raw) rfl ?qa1 ⟨w3.heap.size, 0, none⟩ 1 1 [.int .i64 kk, .string s] rfl rfl ?qb1 ?qc1 ?qd1 ?qe1 ?_)
    case qa1 => exact owns_keep (S := []) HT.out.2.2.2 ((Fr.refl [] _).alloc _) (by simp)
    case qc1 => intro u hu; simp at hu; rcases hu with rfl | rfl <;> rfl
    case qd1 => unfold maxLen; omega
    case qe1 => omega
    case qb1 => exact news_alloc w3 [.int .i64 kk, .string s] _
    intro v5 w5 ho5 hF5 hblk5 hnil5
    rw [← rawCells_snoc] at ho5
    obtain ⟨g5, ca5, rfl⟩ := owns_shape ho5 (by omega)
    have hXl := lt_of_block HT.out.1
    have hsz3 := HT.out.2.1.size
    have hXl1 := HZ.out.2.2.2.2.2.2.2
    have hXg : X ∉ (Value.slice (some ⟨g3, 0, none⟩) d.raw.length ca3).ownBlock.toList := fun h => by simp [Value.ownBlock] at h; have := HT.out.2.2.1; omega
    have hX5 := hF5.keep (blk_alloc_lt (.cells #[.int .i64 kk, .string s] 56) HT.out.1) hXg
    have e5 := cell_blk (i := 1) hX5 rfl
    have j5 := free_blk (i := 1) hX5
    have hF35 : Fr [g3] w3 w5 := ((Fr.refl [g3] w3).alloc (.cells #[.int .i64 kk, .string s] 56)).step hF5 (fun x hx => .inl (by simpa [Value.ownBlock] using hx))
    have hb5 : ∀ x, x ∈ (Value.slice (some ⟨g5, 0, none⟩) (d.raw.length + 1) ca5).ownBlock.toList → w1.heap.size ≤ x := fun x hx => by
      have := HT.out.2.2.1
      rcases hblk5 x (by simpa using hx) with h | h
      · simp [Value.ownBlock] at h; omega
      · first | omega | (simp at h; omega)
    have HV := hid (And.intro hX5 (And.intro hF35 (And.intro ho5 hb5)))
    have hXl5 := lt_of_block hX5
    clear hXl hsz3 hXl1 hXl3 hXg hX5 hF35 ho5 hb5 hF5 hblk5 hnil5
    go_wp2_with fail
    go_ret
    obtain ⟨v1, v2, v3, v4⟩ := HV.out
    obtain ⟨t1, t2, t3, t4⟩ := HT.out
    obtain ⟨z1, z2, z3, z4, z5, z6, z7, z8⟩ := HZ.out
    obtain ⟨b1, b2, b3, hback, hdX⟩ := HB.out
    obtain ⟨q1, q2, q3, q4, q5, q6⟩ := H0.out
    have hXw := lt_of_block b1
    have hl5 : (d.raw ++ [((kk : Int), s)]).length = d.raw.length + 1 := by simp
    refine ⟨rfl, hback _ [X] ((Value.slice (some ⟨g1, 0, none⟩) d.sec.length cap1).ownBlock.toList ++ (Value.slice (some ⟨g5, 0, none⟩) (d.raw.length + 1) ca5).ownBlock.toList) _ inferInstance ⟨.slice (some ⟨g1, 0, none⟩) d.sec.length cap1, .slice (some ⟨g5, 0, none⟩) (d.raw.length + 1) ca5, rfl, rfl, ?_, ?_, ?_⟩ ?_ (fun x hx => .inl hx) (fun x hx => ?_) (fun x hx hg => ?_)⟩
    · rw [blk_setCell_at _ v1]; simp
    · simp only [List.length_set]
      have h1 := owns_keep z3 t2 (fun q hq => by simp [Value.ownBlock] at hq; subst hq; simp; omega)
      have hgl := owns_lt z3 g1 (by simp [Value.ownBlock])
      have h2 := owns_keep h1 v2 (fun q hq => by simp [Value.ownBlock] at hq; subst hq; simp; omega)
      exact owns_keep (S := [X]) h2 ((Fr.refl _ w5).setCell (.inl (by simp)) _) (fun q hq => by simp [Value.ownBlock] at hq; subst hq; simp; omega)
    · simp only [hl5]
      exact owns_keep (S := [X]) v3 ((Fr.refl _ w5).setCell (.inl (by simp)) _) (fun q hq => by have := v4 q hq; simp; omega)
    · exact (((q2.step z1 (by simp)).step t2 (fun x hx => .inl hx)).step v2 (fun x hx => .inr (by simp at hx; omega))).setCell (.inl (by simp)) _
    · rcases List.mem_append.1 hx with h | h
      · simp [Value.ownBlock] at h; subst h; exact .inr (.inr (by omega))
      · exact .inr (.inr (by have := v4 x h; omega))
    · simp at hx; subst hx
      rcases List.mem_append.1 hg with h | h
      · simp [Value.ownBlock] at h; omega
      · have := v4 x h; omega
  · have ha4 : d.armed = 0 := by have := hw.a0; omega
    have hr : d.write kk s = (0, { d with armed := d.armed, sec := d.sec.set kk s, raw := d.raw ++ [((kk : Int), s)] }) := by
      unfold DS.write; rw [if_neg hdead, if_neg hk, if_neg hs, if_neg ha, show max 0 (d.armed - 1) = d.armed by omega]; rfl
    rw [hr]
    have ha5 : (d.armed == 1) = false := by rw [beq_eq_false_iff_ne]; exact ha
    clear hr ha ha4
    have hX0 : (w).heap[X]? = some (.cells #[.slice (some ⟨g, 0, none⟩) d.sec.length cap, .slice ra d.raw.length rc, .int .i64 (d.armed), .int .i64 d.bytes, .bool d.dead] 88 (0, 0)) := HB.out.1
    have hF0 : Fr [X] w (w) := Fr.refl _ w
    have hgX : g ∉ [X] := fun h => by simp at h; subst h; exact HB.out.2.2.2.2 (by simp [Value.ownBlock])
    have hrX : ∀ x, x ∈ (Value.slice ra d.raw.length rc).ownBlock.toList → x ∉ [X] := fun x hx h => by simp at h; subst h; exact HB.out.2.2.2.2 (List.mem_append.2 (.inr hx))
    have hI0 := HI.out.fr hF0 (fun b off e => by cases e; exact hgX)
    have hIr0 := HIr.out.1.fr hF0 (fun b off e => hrX b (HIr.out.2 b off e))
    have hXl := lt_of_block HB.out.1
    have hs0 := hF0.size
    have H0 := hid (And.intro hX0 (And.intro hF0 (And.intro hI0 (And.intro hIr0 (And.intro hXl hs0)))))
    have HL := hid (ref_laid (w) _ cap d.sec hI0 kk 128 s hk2 hn2 hs' (hw.sz kk hk2) (Nat.le_refl _))
    clear hdead hdead' hk hs hs' hX0 hF0 hgX hrX hI0 hIr0 hXl hs0
    go_enter Try.func66, Try.ntmps66
    go_wp2_with fail
    refine HL.out.mono ?_
    rintro e w1 ⟨g1, cap1, rfl, hF1, hg1, ho1⟩
    rw [HC.out] at ho1
    have hX1 := hF1.keep H0.out.1 (by simp)
    have hIr1 := H0.out.2.2.2.1.fr0 hF1
    have e0 := cell_blk (i := 0) hX1 rfl
    have e1 := cell_blk (i := 1) hX1 rfl
    have j0 := free_blk (i := 0) hX1
    have j1 := free_blk (i := 1) hX1
    have hs1 := hF1.size
    have hXl := lt_of_block hX1
    have hX2 := blk_setCell_at (i := 0) (.slice (some ⟨g1, 0, none⟩) d.sec.length cap1) hX1
    have hFs : Fr [X] w1 (w1.setCell ⟨X, 0, none⟩ (.slice (some ⟨g1, 0, none⟩) d.sec.length cap1)) := (Fr.refl _ w1).setCell (.inl (by simp)) _
    have hFa := hFs.alloc (.cells #[] 56)
    have hIa := hIr1.fr hFa (fun b off e h => by simp at h; subst h; exact HB.out.2.2.2.2 (List.mem_append.2 (.inr (HIr.out.2 _ off e))))
    have HZ := hid (And.intro hF1 (And.intro hg1 (And.intro ho1 (And.intro hX2 (And.intro hFa (And.intro hIa (And.intro hs1 hXl)))))))
    clear hF1 hg1 ho1 hX2 hFs hFa hIa hs1 hIr1 hX1
    go_wp2_with (at_builtin; refine wpList_copied rfl (.tmp 70) (.tmp 74) 47 rfl 56 i1 (.agg #[.int .i64 0, .string ByteArray.empty]) 2 24 Try.underlying47 HJ.out.1 HJ.out.2.1 HJ.out.2.2.1 HJ.out.2.2.2 rfl (by decide) w1.heap.size rfl (blk_alloc_at _ _ _ (by simp [World.setCell])) ra d.raw.length rc (wrV d.raw) rfl HZ.out.2.2.2.2.2.1 (fun j _ => wrV_one _ j) (by omega) ?_)
    intro g3 ca3 w3 ho3 hF3 hg3
    rw [range_wrs] at ho3
    have hX3 := hF3.keep (blk_alloc_lt (.cells #[] 56) HZ.out.2.2.2.1) (by simp; omega)
    have e3 := cell_blk (i := 1) hX3 rfl
    have j3 := free_blk (i := 1) hX3
    have hF13 : Fr [X] w1 w3 := HZ.out.2.2.2.2.1.step hF3 (fun x hx => .inr (by simp at hx; omega))
    have hg3' : w1.heap.size ≤ g3 := by rcases hg3 with h | h <;> first | omega | (simp at h; omega)
    have HT := hid (And.intro hX3 (And.intro hF13 (And.intro hg3' ho3)))
    clear hXl hX3 hF13 hg3' ho3 hF3 hg3
    have hXl3 := lt_of_block HT.out.1
    go_wp2_with (at_builtin; refine wpList_append_blk rfl (.tmp 75) (.tmp 79) 47 rfl 56 i1 (.agg #[.int .i64 0, .string ByteArray.empty]) 2 24 Try.underlying47 HJ.out.1 HJ.out.2.1 HJ.out.2.2.1 HJ.out.2.2.2 rfl (by decide) (.slice (some ⟨g3, 0, none⟩) d.raw.length ca3) d.raw.length (rawCells d.raw) rfl ?qa2 ⟨w3.heap.size, 0, none⟩ 1 1 [.int .i64 kk, .string s] rfl rfl ?qb2 ?qc2 ?qd2 ?qe2 ?_)
    case qa2 => exact owns_keep (S := []) HT.out.2.2.2 ((Fr.refl [] _).alloc _) (by simp)
    case qc2 => intro u hu; simp at hu; rcases hu with rfl | rfl <;> rfl
    case qd2 => unfold maxLen; omega
    case qe2 => omega
    case qb2 => exact news_alloc w3 [.int .i64 kk, .string s] _
    intro v5 w5 ho5 hF5 hblk5 hnil5
    rw [← rawCells_snoc] at ho5
    obtain ⟨g5, ca5, rfl⟩ := owns_shape ho5 (by omega)
    have hXl := lt_of_block HT.out.1
    have hsz3 := HT.out.2.1.size
    have hXl1 := HZ.out.2.2.2.2.2.2.2
    have hXg : X ∉ (Value.slice (some ⟨g3, 0, none⟩) d.raw.length ca3).ownBlock.toList := fun h => by simp [Value.ownBlock] at h; have := HT.out.2.2.1; omega
    have hX5 := hF5.keep (blk_alloc_lt (.cells #[.int .i64 kk, .string s] 56) HT.out.1) hXg
    have e5 := cell_blk (i := 1) hX5 rfl
    have j5 := free_blk (i := 1) hX5
    have hF35 : Fr [g3] w3 w5 := ((Fr.refl [g3] w3).alloc (.cells #[.int .i64 kk, .string s] 56)).step hF5 (fun x hx => .inl (by simpa [Value.ownBlock] using hx))
    have hb5 : ∀ x, x ∈ (Value.slice (some ⟨g5, 0, none⟩) (d.raw.length + 1) ca5).ownBlock.toList → w1.heap.size ≤ x := fun x hx => by
      have := HT.out.2.2.1
      rcases hblk5 x (by simpa using hx) with h | h
      · simp [Value.ownBlock] at h; omega
      · first | omega | (simp at h; omega)
    have HV := hid (And.intro hX5 (And.intro hF35 (And.intro ho5 hb5)))
    have hXl5 := lt_of_block hX5
    clear hXl hsz3 hXl1 hXl3 hXg hX5 hF35 ho5 hb5 hF5 hblk5 hnil5
    go_wp2_with fail
    go_ret
    obtain ⟨v1, v2, v3, v4⟩ := HV.out
    obtain ⟨t1, t2, t3, t4⟩ := HT.out
    obtain ⟨z1, z2, z3, z4, z5, z6, z7, z8⟩ := HZ.out
    obtain ⟨b1, b2, b3, hback, hdX⟩ := HB.out
    obtain ⟨q1, q2, q3, q4, q5, q6⟩ := H0.out
    have hXw := lt_of_block b1
    have hl5 : (d.raw ++ [((kk : Int), s)]).length = d.raw.length + 1 := by simp
    refine ⟨rfl, hback _ [X] ((Value.slice (some ⟨g1, 0, none⟩) d.sec.length cap1).ownBlock.toList ++ (Value.slice (some ⟨g5, 0, none⟩) (d.raw.length + 1) ca5).ownBlock.toList) _ inferInstance ⟨.slice (some ⟨g1, 0, none⟩) d.sec.length cap1, .slice (some ⟨g5, 0, none⟩) (d.raw.length + 1) ca5, rfl, rfl, ?_, ?_, ?_⟩ ?_ (fun x hx => .inl hx) (fun x hx => ?_) (fun x hx hg => ?_)⟩
    · rw [blk_setCell_at _ v1]; simp
    · simp only [List.length_set]
      have h1 := owns_keep z3 t2 (fun q hq => by simp [Value.ownBlock] at hq; subst hq; simp; omega)
      have hgl := owns_lt z3 g1 (by simp [Value.ownBlock])
      have h2 := owns_keep h1 v2 (fun q hq => by simp [Value.ownBlock] at hq; subst hq; simp; omega)
      exact owns_keep (S := [X]) h2 ((Fr.refl _ w5).setCell (.inl (by simp)) _) (fun q hq => by simp [Value.ownBlock] at hq; subst hq; simp; omega)
    · simp only [hl5]
      exact owns_keep (S := [X]) v3 ((Fr.refl _ w5).setCell (.inl (by simp)) _) (fun q hq => by have := v4 q hq; simp; omega)
    · exact (((q2.step z1 (by simp)).step t2 (fun x hx => .inl hx)).step v2 (fun x hx => .inr (by simp at hx; omega))).setCell (.inl (by simp)) _
    · rcases List.mem_append.1 hx with h | h
      · simp [Value.ownBlock] at h; subst h; exact .inr (.inr (by omega))
      · exact .inr (.inr (by have := v4 x h; omega))
    · simp at hx; subst hx
      rcases List.mem_append.1 hg with h | h
      · simp [Value.ownBlock] at h; omega
      · have := v4 x h; omega
end

end Go.Proofs.Ytkkahkgjedgjnaa
