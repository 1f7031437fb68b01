/-
  record: Decode: the walk.
-/
import Derived.Test.YtdobbmlaokolmaaRA
namespace Go.Proofs.Ytdobbmlaokolmaa
open Go.RowKit
set_option linter.unusedVariables false
set_option linter.unusedSimpArgs false

section
variable {W : Base} {w : World} {R : List Thing}

set_option maxHeartbeats 4000000 in
set_option maxRecDepth 100000 in
theorem st_decode (H : St W w R) (b : ByteArray) (hb : b.size ≤ 140737488355328) :
    Calls Try.prog 18 #[.string b] w (DecTo W R (decode b)) := by
  have hmf : ∀ (fn : Fn) (first cap : Array Value) (w : World), (Instr.makeFunc fn first cap).run Try.prog w = .ok (.func fn first cap) w := fun _ _ _ _ => rfl
  obtain ⟨Z, hZ⟩ : ∃ Z, decode b = Z := ⟨_, rfl⟩
  rw [hZ]
  unfold decode at hZ
  have H0 := (H.alloc (.cells #[.slice none 0 0] 28)).allocAt (.cells #[.int .i64 0] 30) (w.heap.size + 1) (by simp)
  rw [List.append_assoc] at H0
  have H0 := hid H0
  clear H
  by_cases hlong : 2048 < b.size
  · rw [if_pos hlong] at hZ
    have hZ := hid hZ
    go_enter_defers Try.func18, Try.ntmps18
    go_wp2_with fail
    obtain ⟨hSt, y0, y1, hlb, heb⟩ := dead_end H0.out (il := 0) (ie := 1) rfl rfl (by decide)
    have hSt := hid hSt
    refine leaves_cons (by simp) (enter_decode1 _ _) ?_
    refine (catch_pan_d hlb heb).mono ?_
    rintro e u' w'' ⟨rfl, ⟨pe, rfl⟩, rfl⟩
    rw [← hZ.out]
    refine ⟨.tuple #[.slice none 0 0, .int .i64 83], ?_, rfl, hSt.out⟩
    simp [results, Try.results18, go_sem, y0, y1]
  · rw [if_neg hlong] at hZ
    have hlong := hid hlong
    have hZ := hid hZ
    have hw0 : RS.wf ⟨b, 0, 0⟩ := ⟨Nat.zero_le _, hb⟩
    rcases hX : rdMost b 0 16 21 with ce | ⟨n, q⟩
    · go_enter_defers Try.func18, Try.ntmps18
      go_wp2_with (first
        | (go_at_call 34; refine (st_read0 H0.out b).mono ?_; rintro e w1 ⟨r, rfl, H1⟩; have H2 := (H1.alloc (.cells #[.pointer (some ⟨r, 0, none⟩)] 55)).new (A := Row1 27 10 (.slice none 0 0) 0 []) (F := []) (Fr.refl _ _) inferInstance ⟨rfl, World.ownsRow_nil _ _ _ _⟩ (by simp); simp only [List.append_assoc] at H2; have H3 : St W (w1.alloc (.cells #[.pointer (some ⟨r, 0, none⟩)] 55)) (R ++ deT r w.heap.size (w.heap.size + 1) w1.heap.size ⟨b, 0, 0⟩ (.slice none 0 0) (.slice none 0 0) 0 []) := H2; have H3 := hid H3; clear H1 H2)
        | (go_at_call 35; refine (de_num_no H3.out hw0 (by decide) (by decide) hX).mono ?_; rintro e w2 ⟨rfl, s', H4⟩))
      have hZe : Z = none := by
        have h1 := hZ.out
        rw [rdNum_no hX] at h1
        exact h1.symm
      obtain ⟨hSt, y0, y1, hlb, heb⟩ := dead_end H4 (il := 0) (ie := 1) rfl rfl (by decide)
      have hSt := hid hSt
      refine leaves_cons (by simp) (enter_decode1 _ _) ?_
      refine (catch_pan_d hlb heb).mono ?_
      rintro e u' w'' ⟨rfl, ⟨pe, rfl⟩, rfl⟩
      rw [hZe]
      refine ⟨.tuple #[.slice none 0 0, .int .i64 83], ?_, rfl, hSt.out⟩
      simp [results, Try.results18, go_sem, y0, y1]
    · go_enter_defers Try.func18, Try.ntmps18
      go_wp2_with (first
        | (go_at_call 34; refine (st_read0 H0.out b).mono ?_; rintro e w1 ⟨r, rfl, H1⟩; have H2 := (H1.alloc (.cells #[.pointer (some ⟨r, 0, none⟩)] 55)).new (A := Row1 27 10 (.slice none 0 0) 0 []) (F := []) (Fr.refl _ _) inferInstance ⟨rfl, World.ownsRow_nil _ _ _ _⟩ (by simp); simp only [List.append_assoc] at H2; have H3 : St W (w1.alloc (.cells #[.pointer (some ⟨r, 0, none⟩)] 55)) (R ++ deT r w.heap.size (w.heap.size + 1) w1.heap.size ⟨b, 0, 0⟩ (.slice none 0 0) (.slice none 0 0) 0 []) := H2; have H3 := hid H3; clear H1 H2)
        | (go_at_call 35; refine (de_num_ok H3.out hw0 (by decide) (by decide) hX).mono ?_; rintro e w2 ⟨rfl, H4⟩; have H4 := hid H4))
      obtain ⟨T0, hT0⟩ : ∃ T0, rdAll b n q [] = T0 := ⟨_, rfl⟩
      have hZ1 : (T0.bind fun y => if y.2 < b.size ∨ n = 0 then none else some y.1) = Z := by
        have h1 := hZ.out
        rw [rdNum_ok hX] at h1
        rw [← hT0]
        exact h1
      have hq : RS.wf ⟨b, q, 0⟩ := ⟨(rdMost_p hX).2, hb⟩
      have hn16 : n ≤ 16 := by have := rdMost_le hX; omega
      generalize w.heap.size + 1 = eb at H4 ⊢
      generalize w.heap.size = lb at H4 ⊢
      generalize w1.heap.size = tb at H4 ⊢
      have hZ1 := hid hZ1
      have hX := hid hX
      have hH4 := hid (And.intro H4.out (And.intro hq hT0))
      clear H3 H4 hT0 hq hw0
      go_loopw [18] (fun iv wr => ∃ (k : Nat) (v : Value) (l : List (CV × TS)) (p : Nat), k ≤ n ∧ iv = .int .i64 k ∧ l.length = k ∧ RS.wf ⟨b, p, 0⟩ ∧ St W wr (R ++ deT r lb eb tb ⟨b, p, 0⟩ v v k l) ∧ rdAll b (n - k) p (l.map (·.1)) = T0) (fun iv _ => n - (intOf iv).toNat)
      case atStart => exact ⟨0, _, [], q, Nat.zero_le _, rfl, rfl, hH4.out.2.1, hH4.out.1, hH4.out.2.2⟩
      case round =>
        obtain ⟨k, v, l, p, hk, rfl, hll, hw, H, hR⟩ := hrel
        obtain ⟨b0, b1, b2⟩ := H.de
        have k0 : wr.cell? ⟨lb, 0, none⟩ = some v := cell_blk (i := 0) b0 rfl
        have k2 := cell_blk (i := 0) b2 rfl
        by_cases hlt : k < n
        · obtain ⟨m, hm⟩ : ∃ m, n - k = m + 1 := ⟨n - k - 1, by omega⟩
          have hm2 : n - (k + 1) = m := by omega
          rw [hm] at hR
          rcases hX2 : rdChange b p with _ | ⟨c, q'⟩
          · have hR := hid (by simpa [rdAll, hX2] using hR : none = T0)
            have hch := hid (de_change_no H.drew hw hX2)
            have hZe : Z = none := by
              have h1 := hZ1.out
              rw [← hR.out] at h1
              exact h1.symm
            have hZe := hid hZe
            clear H b0 b1 b2 hw hX2 hm hm2
            go_wp2_with fail
            go_region_dies
            all_goals
              refine hch.out.mono ?_
              rintro e w3 ⟨rfl, s', H4⟩
              dsimp only
              obtain ⟨hSt, y0, y1, hlb, heb⟩ := dead_end H4 (il := 0) (ie := 1) rfl rfl (by decide)
              have hSt := hid hSt
              refine leaves_cons (by simp) (enter_decode1 _ _) ?_
              refine (catch_pan_d hlb heb).mono ?_
              rintro e u' w'' ⟨rfl, ⟨pe, rfl⟩, rfl⟩
              rw [hZe.out]
              refine ⟨.tuple #[.slice none 0 0, .int .i64 83], ?_, rfl, hSt.out⟩
              simp [results, Try.results18, go_sem, y0, y1]
          · have hR := hid (by simpa [rdAll, hX2] using hR : rdAll b m q' (l.map (·.1) ++ [c]) = T0)
            have hch := hid (de_change_ok H.drew hw hX2)
            have hq' : RS.wf ⟨b, q', 0⟩ := ⟨(rdChange_p hX2).1, hb⟩
            obtain ⟨i0, hi, hz0, hz1, hz2⟩ := info_parts info_ch
            have HI := hid (And.intro hi (And.intro hz0 (And.intro hz1 hz2)))
            have HJ := hid (And.intro hq' (And.intro hll hm2))
            clear H b0 b1 b2 hw hX2 hm hm2 hq' hi hz0 hz1 hz2
            go_wp2_with fail
            go_region_law (first
              | (go_simp; go_at_call 36; refine hch.out.mono ?_; rintro e w3 ⟨t, rfl, H3⟩; obtain ⟨b0, b1, b2⟩ := H3.de'; have e0 : w3.cell? ⟨lb, 0, none⟩ = some v := cell_blk (i := 0) b0 rfl; have e2 := cell_blk (i := 0) b2 rfl; have hl0 := lt_of_block b0; have hl2 := lt_of_block b2; have H3 := hid H3; clear b0 b1 b2)
              | (refine step_append_blk rfl (.tmp 20) (.tmp 23) 28 rfl 27 i0 (.agg #[.int .i64 0, .int .i64 0, .int .i64 0, .int .i64 0, .int .i64 0, .int .i64 0, .int .i64 0, .int .u64 0, .string ⟨#[]⟩, .slice none 0 0]) 10 104 Try.underlying28 HI.out.1 HI.out.2.1 HI.out.2.2.1 HI.out.2.2.2 rfl (by decide) v k _ rfl (ownsRow_keep (S := []) H3.out.deApp.1 ((Fr.refl [] w3).alloc _) (by simp)) ⟨w3.heap.size, 0, none⟩ 1 1 (c.f t) rfl rfl (news_alloc w3 (c.f t) _) (cL.one (c, t)) (by unfold maxLen; omega) (by omega) ?_; intro v' w4 ho4 hF4 hb4 hn4; rw [show cL.cells l ++ c.f t = cL.cells (l ++ [(c, t)]) from cL.snoc l (c, t)] at ho4; obtain ⟨g', cap', rfl, _⟩ := ownsRow_shape ho4 (by omega); have H4 := (H3.out.alloc_ (.cells (c.f t).toArray 27)).deApp.2 _ w4 ho4 hF4 hb4; obtain ⟨b0, b1, b2⟩ := H4.de; have m0 : w4.cell? ⟨lb, 0, none⟩ = some v := cell_blk (i := 0) b0 rfl; have n0 := free_blk (i := 0) b0; have H4 := hid H4; clear b0 b1 b2 ho4 hF4 hb4 hn4))
            all_goals go_wp2_with fail
            all_goals exact ⟨⟨k + 1, _, l ++ [(c, t)], q', by omega, by go_num, by rw [List.length_append, HJ.out.2.1]; rfl, HJ.out.1, H4.out.deSet _, by rw [HJ.out.2.2, List.map_append]; exact hR.out⟩, by simp [intOf]; omega⟩
        · obtain rfl : k = n := by omega
          rw [Nat.sub_self, rdAll] at hR
          have hZ2 := hZ1.out
          rw [← hR] at hZ2
          simp only [Option.bind_some] at hZ2
          have hle := hid (st_left H (R.length + 2) (by rw [get_behind]; rfl) hw)
          have hwle := hw.le
          simp only at hwle
          clear b0 b1 b2 hR hX
          by_cases hmore : (0 : Int) < (b.size : Int) - p
          · rw [if_pos (.inl (by omega))] at hZ2
            have hZ2 := hid hZ2
            clear H hw
            go_wp2_with (go_at_call 37; refine hle.out.mono ?_; rintro e w3 ⟨rfl, H3⟩; obtain ⟨b0, b1, b2⟩ := H3.de; have m0 : w3.cell? ⟨lb, 0, none⟩ = some v := cell_blk (i := 0) b0 rfl; have n0 := free_blk (i := 0) b0; have m1 : w3.cell? ⟨eb, 0, none⟩ = some (.int .i64 0) := cell_blk (i := 0) b1 rfl; have n1 := free_blk (i := 0) b1; have hne : lb ≠ eb := ne_of_elem b0 b1 (by decide); have H3 := hid H3; clear b0 b1 b2)
            obtain ⟨hSt, y0, y1, hlb, heb⟩ := dead_end H3.out (il := 0) (ie := 1) rfl rfl (by decide)
            have hSt := hid hSt
            refine leaves_cons (by simp) (enter_decode1 _ _) ?_
            refine (catch_pan_d hlb heb).mono ?_
            rintro e u' w'' ⟨rfl, ⟨pe, rfl⟩, rfl⟩
            rw [← hZ2.out]
            refine ⟨.tuple #[.slice none 0 0, .int .i64 83], ?_, rfl, hSt.out⟩
            simp [results, Try.results18, go_sem, y0, y1]
          · by_cases hk0 : k = 0
            · subst hk0
              rw [if_pos (.inr rfl)] at hZ2
              have hZ2 := hid hZ2
              clear H hw
              go_wp2_with (go_at_call 37; refine hle.out.mono ?_; rintro e w3 ⟨rfl, H3⟩; obtain ⟨b0, b1, b2⟩ := H3.de; have m0 : w3.cell? ⟨lb, 0, none⟩ = some v := cell_blk (i := 0) b0 rfl; have n0 := free_blk (i := 0) b0; have m1 : w3.cell? ⟨eb, 0, none⟩ = some (.int .i64 0) := cell_blk (i := 0) b1 rfl; have n1 := free_blk (i := 0) b1; have hne : lb ≠ eb := ne_of_elem b0 b1 (by decide); have H3 := hid H3; clear b0 b1 b2)
              obtain ⟨hSt, y0, y1, hlb, heb⟩ := dead_end H3.out (il := 0) (ie := 1) rfl rfl (by decide)
              have hSt := hid hSt
              refine leaves_cons (by simp) (enter_decode1 _ _) ?_
              refine (catch_pan_d hlb heb).mono ?_
              rintro e u' w'' ⟨rfl, ⟨pe, rfl⟩, rfl⟩
              rw [← hZ2.out]
              refine ⟨.tuple #[.slice none 0 0, .int .i64 83], ?_, rfl, hSt.out⟩
              simp [results, Try.results18, go_sem, y0, y1]
            · rw [if_neg (by omega)] at hZ2
              have hZ2 := hid hZ2
              have hk1 : ((k : Int) == 0) = false := by rw [beq_eq_false_iff_ne]; omega
              obtain ⟨a, cap, rfl, hc1, hc2, hc3⟩ : ∃ a cap, v = .slice a k cap ∧ k ≤ cap ∧ cap ≤ maxLen ∧ (a = none → cap = 0) := by
                have ho : wr.ownsRow 0 27 10 v k (cL.cells l) := H.row (R.length + 4) (by rw [get_behind]; rfl)
                rcases ownsRow_one ho with ⟨h1, h2, _⟩ | ⟨g, cap, h1, h2, h3⟩
                · subst h2; exact ⟨none, 0, h1, Nat.le_refl _, Nat.zero_le _, fun _ => rfl⟩
                · exact ⟨_, cap, h1, h2, h3, fun h => by cases h⟩
              have hcl := hid (fun w' => clip_ch w' a k cap hc1 hc2 hc3)
              clear H hw hc1 hc2 hc3
              go_wp2_with (first
                | (go_at_call 37; refine hle.out.mono ?_; rintro e w3 ⟨rfl, H3⟩; obtain ⟨b0, b1, b2⟩ := H3.de; have m0 : w3.cell? ⟨lb, 0, none⟩ = some (.slice a k cap) := cell_blk (i := 0) b0 rfl; have n0 := free_blk (i := 0) b0; have m1 : w3.cell? ⟨eb, 0, none⟩ = some (.int .i64 0) := cell_blk (i := 0) b1 rfl; have n1 := free_blk (i := 0) b1; have hne : lb ≠ eb := ne_of_elem b0 b1 (by decide); have H3 := hid H3; clear b0 b1 b2)
                | (go_at_call 38; refine (hcl.out _).mono ?_; rintro e w4 ⟨rfl, rfl⟩))
              have H4 := H3.out.deSet (.slice a k k)
              have b1 := H4.de
              have H5 := (H4.setBlk (R.length + 1) (by rw [get_behind]; rfl) 0 (.int .i64 0))
              rw [List.set_append_right _ _ (by omega), Nat.add_sub_cancel_left] at H5
              have H5 : St W ((w3.setCell ⟨lb, 0, none⟩ (.slice a k k)).setCell ⟨eb, 0, none⟩ (.int .i64 0)) (R ++ deT r lb eb tb ⟨b, p, 0⟩ (.slice a k k) (.slice a k cap) k l) := H5
              have H6 := H5.deEnd hll (by unfold maxLen; omega)
              obtain ⟨b0, b1, b2⟩ := H5.de
              have y0 := cell_blk (i := 0) b0 rfl
              have y1 := cell_blk (i := 0) b1 rfl
              refine leaves_cons (by simp) (enter_decode1 _ _) ?_
              refine catch_idle_d.mono ?_
              rintro e u' w'' ⟨rfl, rfl, rfl⟩
              refine ⟨.tuple #[.slice a k k, .int .i64 0], ?_, ?_⟩
              · simp [results, Try.results18, go_sem, y0, y1]
              · rw [← hZ2.out]
                refine ⟨a, l, rfl, by rw [List.length_map, hll], H6⟩
end
end Go.Proofs.Ytdobbmlaokolmaa
