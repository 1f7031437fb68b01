/-
  Merged, in build order: Disk3 Disk4.
-/
import Derived.Deep.RegionLaw
import Derived.Test.YthghnlgojmedgaaGreatM17
/-
  Write of the package disk.
-/
namespace Go.Proofs.YthghnlgojmedgaaGreat
open Go.RowKit
set_option linter.unusedVariables false
set_option linter.unusedSimpArgs false

theorem info_write : (Tryz.prog.info? 86).map (fun i => (i.zero, i.size, i.bytes)) = some (some (.agg #[.int .i64 0, .string ByteArray.empty]), 2, 24) := by kernel_rfl
theorem size_u8 : (Tryz.prog.info? 5).map (·.size) = some 1 := by kernel_rfl

theorem rawCells_snoc (l : List (Int × ByteArray)) (i : Int) (s : ByteArray) : rawCells (l ++ [(i, s)]) = rawCells l ++ [.int .i64 i, .string s] := by simp [rawCells]

theorem owns_ne {w : World} {B e size n : Nat} {v : Value} {xs : List Value} {b : Nat} {c : Array Value} {t : TypeId} {f : Nat × Nat} (h : w.ownsRow B e size v n xs) (hb : w.heap[b]? = some (.cells c t f)) (ht : e ≠ t) : b ∉ v.ownBlock.toList := by
  intro hx
  obtain ⟨h1, h2⟩ := h
  rcases h2 with ⟨rfl, _⟩ | ⟨g', cap', cur, rfl, hg, hh, r⟩
  · simp [Value.ownBlock] at hx
  · simp [Value.ownBlock] at hx; subst hx; exact ne_of_elem hh hb ht rfl

theorem owns_shape {w : World} {B e size : Nat} {v : Value} {n : Nat} {xs : List Value} (h : w.ownsRow B e size v n xs) (hn : 0 < n) : ∃ g cap, v = .slice (some ⟨g, 0, none⟩) n cap := by
  obtain ⟨_, h2⟩ := h
  rcases h2 with ⟨_, h2⟩ | ⟨g', cap', cur, hv, _⟩
  · omega
  · exact ⟨g', cap', hv⟩

theorem grown_own {w w' : World} {B e size n n' : Nat} {v v' : Value} {xs xs' : List Value} (h : w.ownsRow B e size v n xs) (h' : w'.ownsRow B e size v' n' xs') : ∀ x, x ∈ v'.ownBlock.toList → x < w'.heap.size := by
  intro x hx
  obtain ⟨h1, h2⟩ := h'
  rcases h2 with ⟨rfl, _⟩ | ⟨g', cap', cur, rfl, hg, hh, r⟩
  · simp [Value.ownBlock] at hx
  · simp [Value.ownBlock] at hx; subst hx; exact lt_of_block hh

theorem disk_write_no (w : World) (F : List Nat) (D : Nat) (d : DS) (i : Int) (s : ByteArray) (h : Dk w F D d) (code : Int)
    (hc : d.dead = true ∧ code = 2 ∨ d.dead = false ∧ (i < 0 ∨ d.sec.length ≤ i) ∧ code = 40 ∨ d.dead = false ∧ 0 ≤ i ∧ i < d.sec.length ∧ s.size ≠ 128 ∧ code = 41) :
    Calls Tryz.prog 25 #[.pointer (some ⟨D, 0, none⟩), .int .i64 i, .string s] w fun e w' => e = .returned (.int .i64 code) ∧ w = w' := by
  have hk := h
  obtain ⟨S, cap, rv, cur, rfl, h1, h2, h3, h4⟩ := h
  have c4 : w.cell? ⟨D, 4, none⟩ = some (.bool d.dead) := cell_blk h1 rfl
  rcases hc with ⟨hd, rfl⟩ | ⟨hd, hi, rfl⟩ | ⟨hd, hi0, hi1, hs, rfl⟩
  · rw [hd] at c4
    clear h1 h2 h3 h4 hk hd
    go_enter Tryz.func25, Tryz.ntmps25
    go_wp2
    go_ret
    exact ⟨rfl, rfl⟩
  · rw [hd] at c4
    have HN := hid (disk_is_no w _ D d i hk hi)
    clear h1 h2 h3 h4 hk hd hi
    go_enter Tryz.func25, Tryz.ntmps25
    go_wp2_with fail
    refine HN.out.mono ?_
    rintro e w1 ⟨rfl, rfl⟩
    go_wp2_with fail
    go_ret
    exact ⟨rfl, rfl⟩
  · rw [hd] at c4
    have HN := hid (disk_is_yes w _ D d i hk hi0 hi1)
    have hs1 : ((s.size : Int) == 128) = false := by rw [beq_eq_false_iff_ne]; omega
    have hs2 : ((s.size : Int) != 128) = true := by rw [bne_iff_ne]; omega
    clear h1 h2 h3 h4 hk hd hs
    go_enter Tryz.func25, Tryz.ntmps25
    go_wp2_with fail
    refine HN.out.mono ?_
    rintro e w1 ⟨rfl, rfl⟩
    go_wp2_with fail
    go_ret
    exact ⟨rfl, rfl⟩

set_option maxHeartbeats 1600000 in
set_option maxRecDepth 100000 in
theorem disk_write_cut (w : World) (F : List Nat) (D : Nat) (d : DS) (k kb : Nat) (s : ByteArray) (h : Dk w F D d) (hw : d.wf) (hd : d.dead = false) (hk : k < d.sec.length) (hs : s.size = 128) (ha : d.armed = 1) (hkb : d.bytes = kb) (hkb2 : kb ≤ 128) :
    Calls Tryz.prog 25 #[.pointer (some ⟨D, 0, none⟩), .int .i64 k, .string s] w fun e w' => e = .returned (.int .i64 2) ∧ Fr F w w' ∧ Dk w' F D { d with sec := d.sec.set k (cutB s (sAt d.sec k) kb), dead := true } := by
  have HN := hid (disk_is_yes w _ D d k h (by omega) (by omega))
  have hkeep := h
  obtain ⟨S, cap, rv, cur, rfl, h1, h2, h3, h4⟩ := h
  have c4 : w.cell? ⟨D, 4, none⟩ = some (.bool false) := by rw [← hd]; exact cell_blk h1 rfl
  have c2 : w.cell? ⟨D, 2, none⟩ = some (.int .i64 1) := by rw [← ha]; exact cell_blk h1 rfl
  have c3 : w.cell? ⟨D, 3, none⟩ = some (.int .i64 kb) := by rw [← hkb]; exact cell_blk h1 rfl
  have c0 : w.cell? ⟨D, 0, none⟩ = some (.slice (some ⟨S, 0, none⟩) d.sec.length cap) := cell_blk h1 rfl
  have hle := h3.le
  have hs1 : ((s.size : Int) == 128) = true := by rw [beq_iff_eq]; omega
  have hs2 : ((s.size : Int) != 128) = false := by rw [bne_eq_false_iff_eq]; omega
  have hkb3 : (kb : Int) ≤ 128 := by omega
  have hkb4 : (0 : Int) ≤ kb := by omega
  have HS := hid hs
  have HA := hid ha
  have HB := hid hkb
  have HD := hid hd
  have hz := h3.sz
  have hfit : k * 128 + kb ≤ cur.size := by
    have : (k + 1) * 128 ≤ cap * 128 := Nat.mul_le_mul_right _ (by omega)
    omega
  have hl := h3.laid (k := kb) hk hs (hw.sz k hk) hkb2
  have hne := ne_of_elem h2 h1 (by decide)
  have HH := hid (And.intro h1 (And.intro h2 (And.intro h4 hl)))
  have HZ := hid (And.intro hfit hne)
  clear hs ha hkb hd h1 h2 h4 hl h3 hz hkeep hfit hne
  go_enter Tryz.func25, Tryz.ntmps25
  go_wp2_with fail
  refine HN.out.mono ?_
  rintro e w1 ⟨rfl, rfl⟩
  go_upto_region 8 with (fail)
  go_region_law (refine step_copy_str rfl (.tmp 37) (.tmp 38) 71 9 rfl 5 Tryz.underlying71 size_u8 S (k * 128) kb 128 kb s cur 73 (by simp [Act.eval, Act.put]) (by simp [Act.eval, Act.put]) HH.out.2.1 (by rw [HS.out]; exact Nat.min_eq_right hkb2) HZ.out.1 ?_)
  all_goals
    have g1 : (w.drew.setRow S (laid cur (k * 128) s kb)).heap[D]? = some (.cells #[.slice (some ⟨S, 0, none⟩) d.sec.length cap, rv, .int .i64 d.armed, .int .i64 d.bytes, .bool d.dead] 54 (0, 0)) := blk_setRow_ne HH.out.1 HZ.out.2.symm
    have g2 : (w.drew.setRow S (laid cur (k * 128) s kb)).heap[S]? = some (.cells (laid cur (k * 128) s kb) 73 (0, 0)) := blk_setRow_at HH.out.2.1
    have g3 : Fr [D, S] w (w.drew.setRow S (laid cur (k * 128) s kb)) := ((Fr.refl _ w).drew).setRow (.inl (by simp)) _
    have g4 := owns_keep HH.out.2.2.1 g3 (by
      intro g hg
      have n1 := owns_ne HH.out.2.2.1 HH.out.1 (by decide)
      have n2 := owns_ne HH.out.2.2.1 HH.out.2.1 (by decide)
      simp only [List.mem_cons, List.not_mem_nil, or_false]
      rintro (rfl | rfl)
      · exact n1 hg
      · exact n2 hg)
    generalize w.drew.setRow S (laid cur (k * 128) s kb) = w2 at g1 g2 g3 g4 ⊢
    have e4 : w2.cell? ⟨D, 4, none⟩ = some (.bool false) := by rw [← HD.out]; exact cell_blk g1 rfl
    have f4 : w2.frozen? ⟨D, 4, none⟩ = false := free_blk g1
    have hne := HZ.out.2
    have HG := hid (And.intro g1 (And.intro g2 (And.intro g3 g4)))
    clear g1 g2 g3 g4
    go_wp2_with fail
    go_ret
    refine ⟨rfl, (HG.out.2.2.1.mono (by simp)).setCell (.inl (by simp)) _, ⟨S, cap, rv, laid cur (k * 128) s kb, rfl, ?_, blk_setCell_ne _ HG.out.2.1 hne, HH.out.2.2.2, ?_⟩⟩
    · have := blk_setCell_at (i := 4) (.bool true) HG.out.1
      rw [this]; simp
    · exact owns_keep HG.out.2.2.2 ((Fr.refl [D] w2).setCell (.inl (by simp)) _) (by intro g hg; have := owns_ne HG.out.2.2.2 HG.out.1 (by decide); simp; rintro rfl; exact this hg)


/-- The world behind the copy, under a name of its own. -/
theorem behind_copy {w : World} {D S cap n : Nat} {rv : Value} {a b : Int} {dd : Bool} {cur X : Array Value} {m : Nat} {xs : List Value} (v : Int) (W : World) (hW : W = (w.setCell ⟨D, 2, none⟩ (.int .i64 v)).setRow S X)
    (h1 : w.heap[D]? = some (.cells #[.slice (some ⟨S, 0, none⟩) n cap, rv, .int .i64 a, .int .i64 b, .bool dd] 54 (0, 0))) (h2 : w.heap[S]? = some (.cells cur 73 (0, 0))) (h4 : w.ownsRow 0 86 2 rv m xs) :
    Hid (W.heap[D]? = some (.cells #[.slice (some ⟨S, 0, none⟩) n cap, rv, .int .i64 v, .int .i64 b, .bool dd] 54 (0, 0)) ∧
      W.heap[S]? = some (.cells X 73 (0, 0)) ∧ Fr [D, S] w W ∧ W.ownsRow 0 86 2 rv m xs) := by
  have hne := ne_of_elem h2 h1 (by decide)
  have hF : Fr [D, S] w W := by rw [hW]; exact ((Fr.refl _ w).setCell (.inl (by simp)) _).setRow (.inl (by simp)) _
  refine ⟨?_, ?_, hF, owns_keep h4 hF ?_⟩
  · rw [hW]; refine blk_setRow_ne ?_ hne.symm
    rw [blk_setCell_at _ h1]; simp
  · rw [hW]; exact blk_setRow_at (blk_setCell_ne _ h2 hne)
  · intro g hg
    have n1 := owns_ne h4 h1 (by decide)
    have n2 := owns_ne h4 h2 (by decide)
    simp only [List.mem_cons, List.not_mem_nil, or_false]
    rintro (rfl | rfl)
    · exact n1 hg
    · exact n2 hg

set_option maxHeartbeats 1600000 in
set_option maxRecDepth 100000 in
theorem disk_write_ok (w : World) (F : List Nat) (D : Nat) (d : DS) (k : Nat) (v : Int) (s : ByteArray) (h : Dk w F D d) (hw : d.wf) (hd : d.dead = false) (hk : k < d.sec.length) (hs : s.size = 128)
    (ha : d.armed ≤ 0 ∧ v = 0 ∨ 2 ≤ d.armed ∧ v = d.armed - 1) (hraw : (d.raw.length + 1) * 24 ≤ 140737488355328) :
    Calls Tryz.prog 25 #[.pointer (some ⟨D, 0, none⟩), .int .i64 k, .string s] w fun e w' => e = .returned (.int .i64 0) ∧ Fr F w w' ∧ ∃ F', Dk w' F' D { d with armed := v, sec := d.sec.set k s, raw := d.raw ++ [((k : Int), s)] } ∧ ∀ x, x ∈ F' → x ∈ F ∨ w.heap.size ≤ x := by
  have HN := hid (disk_is_yes w _ D d k h (by omega) (by omega))
  obtain ⟨S, cap, rv, cur, rfl, h1, h2, h3, h4⟩ := h
  have c4 : w.cell? ⟨D, 4, none⟩ = some (.bool false) := by rw [← hd]; exact cell_blk h1 rfl
  have c2 : w.cell? ⟨D, 2, none⟩ = some (.int .i64 d.armed) := cell_blk h1 rfl
  have f2 : w.frozen? ⟨D, 2, none⟩ = false := free_blk h1
  have c0 : w.cell? ⟨D, 0, none⟩ = some (.slice (some ⟨S, 0, none⟩) d.sec.length cap) := cell_blk h1 rfl
  have hle := h3.le
  have hs1 : ((s.size : Int) == 128) = true := by rw [beq_iff_eq]; omega
  have hs2 : ((s.size : Int) != 128) = false := by rw [bne_eq_false_iff_eq]; omega
  have ha0 := hw.a0
  have ha1 := hw.a1
  have hne1 : (d.armed == 1) = false := by rw [beq_eq_false_iff_ne]; omega
  have HS := hid hs
  have HD := hid hd
  have hz := h3.sz
  have hfit : k * 128 + 128 ≤ cur.size := by
    have : (k + 1) * 128 ≤ cap * 128 := Nat.mul_le_mul_right _ (by omega)
    omega
  have hl := h3.laid (k := 128) hk hs (hw.sz k hk) (Nat.le_refl _)
  rw [cutB_full s _ hs (hw.sz k hk)] at hl
  have hne := ne_of_elem h2 h1 (by decide)
  have HH := hid (And.intro h1 (And.intro h2 (And.intro h4 hl)))
  have HZ := hid (And.intro hfit hne)
  obtain ⟨i0, hi, hz0, hz1, hz2⟩ := info_parts info_write
  have HI := hid (And.intro hi (And.intro hz0 (And.intro hz1 hz2)))
  clear hs hd h1 h2 h4 hl h3 hz hfit hne hi hz0 hz1 hz2
  generalize hA : d.armed = A at ha c2 hne1 ha0 ha1
  have HA := hid hA
  clear hA
  rcases ha with ⟨ha, rfl⟩ | ⟨ha, rfl⟩
  all_goals
    go_enter Tryz.func25, Tryz.ntmps25
    go_wp2_with fail
    refine HN.out.mono ?_
    rintro e w1 ⟨rfl, rfl⟩
    go_wp2_with (first | ((refine wpList_copy_str rfl (.tmp 58) (.tmp 59) 71 9 rfl 5 Tryz.underlying71 size_u8 S (k * 128) 128 128 128 s cur 73 rfl rfl (blk_setCell_ne _ HH.out.2.1 HZ.out.2) (by rw [HS.out]; rfl) HZ.out.1 ?_); (generalize hW : World.setRow _ S _ = w2; have gw := behind_copy _ w2 hW.symm HH.out.1 HH.out.2.1 HH.out.2.2.1; clear hW; have e1 : w2.cell? ⟨D, 1, none⟩ = some rv := cell_blk gw.out.1 rfl; clear c4 c2 f2 c0)) | (at_builtin; refine wpList_append_blk rfl (.tmp 65) (.tmp 69) 36 rfl 86 i0 (.agg #[.int .i64 0, .string ByteArray.empty]) 2 24 Tryz.underlying36 HI.out.1 HI.out.2.1 HI.out.2.2.1 HI.out.2.2.2 rfl (by decide) _ _ _ rfl (gw.out.2.2.2.alloc _) ⟨w2.heap.size, 0, none⟩ 1 1 [.int .i64 k, .string s] rfl rfl ?_ ?_ ?_ ?_ ?_))
    · intro q u hu
      match q, hu with
      | 0, hu => simp at hu; subst hu; simp [Addr.add, World.cell?_alloc_at]
      | 1, hu => simp at hu; subst hu; simp [Addr.add, World.cell?_alloc_at]
    · intro u hu; simp at hu; rcases hu with rfl | rfl <;> rfl
    · unfold maxLen; omega
    · exact hraw
    · intro v' w3 hown hgrow hblk _
      obtain ⟨g1, g2, g3, g4⟩ := gw.out
      have hF3 : Fr rv.ownBlock.toList w2 w3 := ((Fr.refl _ w2).alloc _).trans hgrow
      have n1 := owns_ne g4 g1 (by decide)
      have n2 := owns_ne g4 g2 (by decide)
      have k1 := hF3.keep g1 n1
      have k2 := hF3.keep g2 n2
      have kF : Fr (D :: S :: rv.ownBlock.toList) w w3 := (g3.mono (by simp)).trans (hF3.mono (fun x hx => by simp [hx]))
      have q1 : w3.cell? ⟨D, 1, none⟩ = some rv := cell_blk k1 rfl
      have q2 : w3.frozen? ⟨D, 1, none⟩ = false := free_blk k1
      have hnew : ∀ x, x ∈ v'.ownBlock.toList → x ∈ rv.ownBlock.toList ∨ w.heap.size ≤ x := by
        intro x hx
        rcases hblk x (by simpa using hx) with h1 | h1
        · exact .inl (by simpa using h1)
        · exact .inr (by have := g3.size; omega)
      rw [← rawCells_snoc] at hown
      have hown' : w3.ownsRow 0 86 2 v' (d.raw ++ [((k : Int), s)]).length (rawCells (d.raw ++ [((k : Int), s)])) := by rw [List.length_append]; exact hown
      obtain ⟨g, cg, hv⟩ := owns_shape hown' (by simp)
      have d1 := owns_ne hown' k1 (by decide)
      have d2 := owns_ne hown' k2 (by decide)
      have HK := hid (And.intro k1 (And.intro k2 (And.intro kF (And.intro hown' (And.intro hnew (And.intro d1 d2))))))
      have HV := hid hv
      clear g1 g2 g3 g4 hF3 n1 n2 k1 k2 kF hown hgrow hblk hnew hown' d1 d2 e1
      subst hv
      go_wp2_with fail
      go_ret
      have hne := HZ.out.2
      refine ⟨rfl, HK.out.2.2.1.setCell (.inl (by simp)) _, _, ⟨S, cap, .slice (some ⟨g, 0, none⟩) (d.raw ++ [((k : Int), s)]).length cg, laid cur (k * 128) s 128, rfl, ?_, blk_setCell_ne _ HK.out.2.1 hne, HH.out.2.2.2, ?_⟩, ?_⟩
      · exact (blk_setCell_at (i := 1) _ HK.out.1).trans (by simp)
      · exact owns_keep HK.out.2.2.2.1 ((Fr.refl [D] w3).setCell (.inl (by simp)) _) (by intro q hq; simp; rintro rfl; exact HK.out.2.2.2.2.2.1 hq)
      · intro x hx
        simp only [List.mem_cons] at hx ⊢
        rcases hx with rfl | rfl | hx
        · exact .inl (.inl rfl)
        · exact .inl (.inr (.inl rfl))
        · rcases HK.out.2.2.2.2.1 x hx with h1 | h1
          · exact .inl (.inr (.inr (by simpa using h1)))
          · exact .inr h1


/-- WRITE, in every state and with whatever arguments. -/
theorem disk_write (w : World) (F : List Nat) (D : Nat) (d : DS) (i : Int) (s : ByteArray) (h : Dk w F D d) (hw : d.wf) (hraw : (d.raw.length + 1) * 24 ≤ 140737488355328) :
    Calls Tryz.prog 25 #[.pointer (some ⟨D, 0, none⟩), .int .i64 i, .string s] w fun e w' => e = .returned (.int .i64 (d.write i s).1) ∧ Fr F w w' ∧ ∃ F', Dk w' F' D (d.write i s).2 ∧ ∀ x, x ∈ F' → x ∈ F ∨ w.heap.size ≤ x := by
  have keep : ∀ c, (d.write i s) = (c, d) → (Calls Tryz.prog 25 #[.pointer (some ⟨D, 0, none⟩), .int .i64 i, .string s] w fun e w' => e = .returned (.int .i64 c) ∧ w = w') →
      Calls Tryz.prog 25 #[.pointer (some ⟨D, 0, none⟩), .int .i64 i, .string s] w fun e w' => e = .returned (.int .i64 (d.write i s).1) ∧ Fr F w w' ∧ ∃ F', Dk w' F' D (d.write i s).2 ∧ ∀ x, x ∈ F' → x ∈ F ∨ w.heap.size ≤ x := by
    intro c hc hcall
    rw [hc]
    refine hcall.mono ?_
    rintro e w' ⟨he, rfl⟩
    exact ⟨he, Fr.refl _ _, F, h, fun x hx => .inl hx⟩
  by_cases hd : d.dead = true
  · exact keep 2 (by unfold DS.write; rw [if_pos hd]) (disk_write_no w F D d i s h 2 (.inl ⟨hd, rfl⟩))
  have hd' : d.dead = false := by simpa using hd
  by_cases hi : i < 0 ∨ d.sec.length ≤ i
  · exact keep 40 (by unfold DS.write; rw [if_neg hd, if_pos hi]) (disk_write_no w F D d i s h 40 (.inr (.inl ⟨hd', hi, rfl⟩)))
  by_cases hs : s.size ≠ 128
  · exact keep 41 (by unfold DS.write; rw [if_neg hd, if_neg hi, if_pos hs]) (disk_write_no w F D d i s h 41 (.inr (.inr ⟨hd', by omega, by omega, hs, rfl⟩)))
  obtain ⟨k, rfl⟩ := Int.eq_ofNat_of_zero_le (show 0 ≤ i by omega)
  have hs' : s.size = 128 := by omega
  by_cases ha : d.armed = 1
  · have e : d.write k s = (2, { d with sec := d.sec.set k (cutB s (sAt d.sec k) d.bytes.toNat), dead := true }) := by
      unfold DS.write; rw [if_neg hd, if_neg hi, if_neg hs, if_pos ha]; simp
    rw [e]
    have hb0 := hw.b0
    have hb1 := hw.b1
    refine (disk_write_cut w F D d k d.bytes.toNat s h hw hd' (by omega) hs' ha (by omega) (by omega)).mono ?_
    rintro e w' ⟨he, hF, hk⟩
    exact ⟨he, hF, F, hk, fun x hx => .inl hx⟩
  · have e : d.write k s = (0, { d with armed := max 0 (d.armed - 1), sec := d.sec.set k s, raw := d.raw ++ [((k : Int), s)] }) := by
      unfold DS.write; rw [if_neg hd, if_neg hi, if_neg hs, if_neg ha]; simp
    rw [e]
    exact disk_write_ok w F D d k _ s h hw hd' (by omega) hs' (by omega) hraw

theorem write_wf {d : DS} (hw : d.wf) (i : Int) (s : ByteArray) : (d.write i s).2.wf := by
  unfold DS.write
  have hb0 := hw.b0
  have hb1 := hw.b1
  have ha0 := hw.a0
  have ha1 := hw.a1
  split
  · exact hw
  split
  · exact hw
  rename_i hi
  split
  · exact hw
  rename_i hs
  have hlt : i.toNat < d.sec.length := by omega
  split
  · refine ⟨by simpa using hw.n1, by simpa using hw.n2, fun j hj => ?_, ha0, ha1, hb0, hb1⟩
    simp only [List.length_set] at hj
    show (sAt (d.sec.set _ _) j).size = 128
    rw [sAt_set _ _ _ _ hlt]
    split
    · exact cutB_size _ _ _ (by omega) (hw.sz _ hlt) (by omega)
    · exact hw.sz j hj
  · refine ⟨by simpa using hw.n1, by simpa using hw.n2, fun j hj => ?_, by simp only []; omega, by simp only []; omega, hb0, hb1⟩
    simp only [List.length_set] at hj
    show (sAt (d.sec.set _ _) j).size = 128
    rw [sAt_set _ _ _ _ hlt]
    split
    · omega
    · exact hw.sz j hj

theorem write_len (d : DS) (i : Int) (s : ByteArray) : (d.write i s).2.sec.length = d.sec.length ∧ (d.write i s).2.raw.length ≤ d.raw.length + 1 := by
  unfold DS.write
  repeat' split
  all_goals simp

theorem arm_wf {d : DS} (hw : d.wf) (n b : Int) (hn : n ≤ 9223372036854775807) : (d.arm n b).2.wf := by
  unfold DS.arm
  split
  · exact hw
  split
  · exact hw
  · exact ⟨hw.n1, hw.n2, hw.sz, by simp only []; omega, hn, by simp only []; omega, by simp only []; omega⟩

theorem revive_wf {d : DS} (hw : d.wf) : d.revive.wf := ⟨hw.n1, hw.n2, hw.sz, by simp [DS.revive], by simp [DS.revive], hw.b0, hw.b1⟩
theorem forget_wf {d : DS} (hw : d.wf) : d.forget.wf := ⟨hw.n1, hw.n2, hw.sz, hw.a0, hw.a1, hw.b0, hw.b1⟩
theorem new_wf {n : Nat} (h1 : 1 ≤ n) (h2 : n ≤ 1026) : (DS.new n).wf := by
  refine ⟨by simpa [DS.new] using h1, by simpa [DS.new] using h2, fun i hi => ?_, by simp [DS.new], by simp [DS.new], by simp [DS.new], by simp [DS.new]⟩
  simp only [DS.new, List.length_replicate] at hi
  have : sAt (List.replicate n zeroSec) i = zeroSec := by unfold sAt; simp [List.getD, hi]
  show (sAt (List.replicate n zeroSec) i).size = 128
  rw [this]; rfl

end Go.Proofs.YthghnlgojmedgaaGreat

/-
  Slices that are read; Load of the package disk.
-/
namespace Go.Proofs.YthghnlgojmedgaaGreat
open Go.RowKit
set_option linter.unusedVariables false
set_option linter.unusedSimpArgs false

def strV (ss : List ByteArray) (j : Nat) : Value := .string (sAt ss j)
def wAt (ws : List (Int × ByteArray)) (i : Nat) : Int × ByteArray := ws.getD i (0, ByteArray.empty)
def wrV (ws : List (Int × ByteArray)) (j : Nat) : Value := if j % 2 = 0 then .int .i64 (wAt ws (j / 2)).1 else .string (wAt ws (j / 2)).2

/-- Load's answer. -/
def loadE (ss : List ByteArray) : Int := if ss.length < 1 ∨ 1026 < ss.length then 40 else if ∃ i, i < ss.length ∧ (sAt ss i).size ≠ 128 then 41 else 0

def partSec (ss : List ByteArray) (k : Nat) : List ByteArray := (List.range ss.length).map fun i => if i < k then sAt ss i else zeroSec

theorem partSec_len (ss : List ByteArray) (k : Nat) : (partSec ss k).length = ss.length := by simp [partSec]
theorem partSec_at (ss : List ByteArray) (k i : Nat) (hi : i < ss.length) : sAt (partSec ss k) i = if i < k then sAt ss i else zeroSec := by
  have e : (partSec ss k)[i]? = some (if i < k then sAt ss i else zeroSec) := by simp [partSec, hi]
  show ((partSec ss k).getD i ByteArray.empty) = _
  rw [List.getD, e]; rfl
theorem partSec_zero (ss : List ByteArray) : partSec ss 0 = List.replicate ss.length zeroSec := by
  apply List.ext_getElem (by simp [partSec])
  intro i h1 h2; simp [partSec]
theorem partSec_full (ss : List ByteArray) : partSec ss ss.length = ss := by
  apply List.ext_getElem (by simp [partSec])
  intro i h1 h2
  simp [partSec] at h1 ⊢
  simp [h1, sAt, List.getD]
theorem partSec_set (ss : List ByteArray) (k : Nat) (hk : k < ss.length) : (partSec ss k).set k (sAt ss k) = partSec ss (k + 1) := by
  apply List.ext_getElem (by simp [partSec])
  intro i h1 h2
  rw [List.getElem_set]
  simp [partSec] at h1 ⊢
  by_cases hik : k = i
  · subst hik; simp
  · rw [if_neg hik]
    by_cases h3 : i < k
    · rw [if_pos h3, if_pos (by omega)]
    · rw [if_neg h3, if_neg (by omega)]

theorem zeroSec_size : zeroSec.size = 128 := by show (Array.replicate 128 (0 : UInt8)).size = 128; rw [Array.size_replicate]

set_option maxHeartbeats 1600000 in
set_option maxRecDepth 100000 in
theorem disk_load_ok (w : World) (a : Option Addr) (cap : Nat) (ss : List ByteArray) (h : In w 1 a ss.length cap (strV ss)) (h1 : 1 ≤ ss.length) (h2 : ss.length ≤ 1026) :
    Calls Tryz.prog 14 #[.slice a ss.length cap] w fun e w' => Fr [] w w' ∧ ((∃ i, i < ss.length ∧ (sAt ss i).size ≠ 128) ∧ e = .returned (.tuple #[.pointer none, .int .i64 41]) ∨
      (∀ i, i < ss.length → (sAt ss i).size = 128) ∧ ∃ D F, e = .returned (.tuple #[.pointer (some ⟨D, 0, none⟩), .int .i64 0]) ∧ Dk w' F D ⟨ss, [], 0, 0, false⟩ ∧ ∀ x, x ∈ F → w.heap.size ≤ x) := by
  obtain ⟨b, off, rfl⟩ := h.sm (by omega)
  have H := hid h
  clear h
  go_enter Tryz.func14, Tryz.ntmps14
  go_wp2_with fail
  refine (disk_new_ok w ss.length h1 h2).mono ?_
  rintro e w1 ⟨D, F, rfl, hF, hDk, hFs⟩
  have HFs := hid hFs
  clear hFs
  go_wp2_with fail
  go_loopw [19] (fun i wr => ∃ (k : Nat), k ≤ ss.length ∧ i = .int .i64 k ∧ (∀ j, j < k → (sAt ss j).size = 128) ∧ Dk wr F D ⟨partSec ss k, [], 0, 0, false⟩ ∧ Fr [] w wr) (fun i _ => ss.length - (intOf i).toNat)
  case atStart => exact ⟨0, Nat.zero_le _, rfl, fun j hj => absurd hj (Nat.not_lt_zero _), by rw [partSec_zero]; exact hDk, hF⟩
  case round =>
    clear hDk hF
    obtain ⟨k, hk, rfl, hall, hDk, hFw⟩ := hrel
    have HAll := hid hall
    clear hall
    by_cases hlt : k < ss.length
    · have hc := hFw.cell0 (H.out.cell b off rfl k (by omega))
      obtain ⟨S, dcap, rv, cur, hFeq, g1, g2, g3, g4⟩ := hDk
      simp only [partSec_len] at g1
      have hle := g3.le
      rw [partSec_len] at hle
      have c0 : wr.cell? ⟨D, 0, none⟩ = some (.slice (some ⟨S, 0, none⟩) ss.length dcap) := cell_blk g1 rfl
      by_cases hs : (sAt ss k).size = 128
      · have hs1 : (((sAt ss k).size : Int) == 128) = true := by rw [beq_iff_eq]; omega
        have hs2 : (((sAt ss k).size : Int) != 128) = false := by rw [bne_eq_false_iff_eq]; omega
        have hfit : k * 128 + 128 ≤ cur.size := by
          have := g3.sz
          have : (k + 1) * 128 ≤ dcap * 128 := Nat.mul_le_mul_right _ (by omega)
          omega
        have hold : sAt (partSec ss k) k = zeroSec := by rw [partSec_at _ _ _ hlt, if_neg (Nat.lt_irrefl k)]
        have hl := g3.laid (k := 128) (data := sAt ss k) (by rw [partSec_len]; exact hlt) hs (by rw [hold]; exact zeroSec_size) (Nat.le_refl _)
        rw [cutB_full _ _ hs (by rw [hold]; exact zeroSec_size), partSec_set ss k hlt] at hl
        have hne := ne_of_elem g2 g1 (by decide)
        have HG := hid (And.intro g1 (And.intro g2 (And.intro g4 (And.intro hl (And.intro hfit (And.intro hne hFeq))))))
        have HS := hid hs
        simp only [strV] at hc
        generalize hdat : sAt ss k = dat at hc HS hs1 hs2 HG
        clear g1 g2 g3 g4 hl hfit hne hs hold hFeq
        go_wp2_with (refine wpList_copy_str rfl (.tmp 33) (.tmp 34) 71 9 rfl 5 Tryz.underlying71 size_u8 S (k * 128) 128 128 128 dat cur 73 rfl rfl HG.out.2.1 (by rw [HS.out]; rfl) HG.out.2.2.2.2.1 ?_)
        go_roundw
        case rel =>
          obtain ⟨g1, g2, g4, hl, hfit, hne, hFeq⟩ := HG.out
          have hFF := HFs.out
          subst hFeq
          have hF3 : Fr [S] wr (wr.setRow S (laid cur (k * 128) dat 128)) := (Fr.refl _ wr).setRow (.inl (by simp)) _
          refine ⟨k + 1, by omega, by go_num, ?_, ⟨S, dcap, rv, laid cur (k * 128) dat 128, rfl, ?_, blk_setRow_at g2, hl, ?_⟩, hFw.setRow (.inr (hFF S (by simp))) _⟩
          · intro j hj
            by_cases hjk : j = k
            · subst hjk; rw [hdat]; exact HS.out
            · exact HAll.out j (by omega)
          · rw [partSec_len]; exact blk_setRow_ne g1 hne.symm
          · exact owns_keep g4 hF3 (by intro q hq; have := owns_ne g4 g2 (by decide); simp; rintro rfl; exact this hq)
        case measure => simp [intOf]; omega
      · have hs1 : (((sAt ss k).size : Int) == 128) = false := by rw [beq_eq_false_iff_ne]; omega
        have hs2 : (((sAt ss k).size : Int) != 128) = true := by rw [bne_iff_ne]; omega
        simp only [strV] at hc
        have HX := hid hs
        clear g1 g2 g3 g4 hs hFeq
        go_wp2_with fail
        go_ret2
        exact ⟨hFw, .inl ⟨⟨k, hlt, HX.out⟩, rfl⟩⟩
    · obtain rfl : k = ss.length := by omega
      have hfull := partSec_full ss
      rw [hfull] at hDk
      clear hfull
      have HX := hid (And.intro hDk hFw)
      clear hDk hFw
      go_wp2_with fail
      go_ret2
      exact ⟨HX.out.2, .inr ⟨HAll.out, D, F, rfl, HX.out.1, HFs.out⟩⟩

theorem disk_load_bad (w : World) (a : Option Addr) (n cap : Nat) (h : n < 1 ∨ 1026 < n) (hn : n ≤ 9223372036854775807) :
    Calls Tryz.prog 14 #[.slice a n cap] w fun e w' => e = .returned (.tuple #[.pointer none, .int .i64 40]) ∧ w = w' := by
  go_enter Tryz.func14, Tryz.ntmps14
  go_wp2_with fail
  refine (disk_new_bad w n (by omega)).mono ?_
  rintro e w1 ⟨rfl, rfl⟩
  go_wp2_with fail
  go_ret2
  exact ⟨rfl, rfl⟩

end Go.Proofs.YthghnlgojmedgaaGreat
