/-
  Merged, in build order: R1.
-/
import Derived.Test.YtmgnekjhlfghaaaGreatM16
/-
  record.Check.
-/
namespace Go.Proofs.YtmgnekjhlfghaaaGreat
open Go.RowKit
set_option linter.unusedVariables false
set_option linter.unusedSimpArgs false

/-- Is a change's result none? -/
def CV.noRes (c : CV) : Bool := (c.code == 0) && (c.bits == 0)
def CV.r1 (c : CV) : Bool := rgt (hasL c.kind 110) (c.n == 0) (inB c.n 1 1099511627776)
def CV.r2 (c : CV) : Bool := rgt (hasL c.kind 106) (c.job == 0) (inB c.job 1 8)
def CV.r3 (c : CV) : Bool := rgt (hasL c.kind 112) c.prog.toList.isEmpty (inB c.prog.size 1 1024)
def CV.r4 (c : CV) : Bool := rgt (hasL c.kind 98) (c.badge == 0) (inB c.badge 1 1099511627776)
def CV.r5 (c : CV) : Bool := rgt (hasL c.kind 115) ((c.slot == 0) && (c.life == 0)) (inB c.slot 0 7 && inB c.life 1 1099511627776)
def CV.r6 (c : CV) : Bool := rgt (hasL c.kind 116) ((c.texts.length : Int) == 0) (textsB c.texts)
def CV.r7 (c : CV) : Bool := rgt (hasL c.kind 114) c.noRes (inB c.code 0 7 && ((c.code == 0) || (c.bits == 0)))
/-- Check. -/
def CV.check (c : CV) : Int :=
  if inB c.kind 1 6 then if c.r1 && c.r2 && c.r3 && c.r4 && c.r5 && c.r6 && c.r7 then 0 else 81 else 80

theorem check1_walk (w : World) (b : Nat) (k : Int) (l : UInt8) (hk : w.cell? ⟨b, 0, none⟩ = some (.int .i64 k)) :
    Calls Tryz.prog 66 #[.string ⟨#[l]⟩, .pointer (some ⟨b, 0, none⟩)] w fun e w' => e = .returned (.bool (hasL k l)) ∧ w = w' := by
  have hc := hid (sh_strings_Contains_one (hasS k) l w)
  go_enter Tryz.func66, Tryz.ntmps66
  go_wp2_with (first | (go_at_call 68; refine (has_walk _ _).mono ?_; rintro e w1 ⟨rfl, rfl⟩) | (go_at_call 67; refine hc.out.mono ?_; rintro e w1 ⟨rfl, rfl⟩))
  go_ret
  exact ⟨rfl, rfl⟩
theorem enter_check1 (args : Array Value) (w : World) : (callFunc 66 args).run Tryz.prog w = .ok (.enter 66 args) w := run_enter Tryz.func66 (by kernel_rfl) rfl args w

theorem res_eql (ev : Operand → Value) (c bi : Int) (n m : Nat) (d : Option Nat) (p : String) (af : Array Edge) (g : Option (Nat × Bool)) (w : World) (h1 : ev (.tmp n) = (.agg #[.int .i64 c, .int .u64 bi])) (h2 : ev (.tmp m) = (.agg #[.int .i64 0, .int .u64 0])) : (execOp ev ⟨d, .binOp .eql 49 (.tmp n) (.tmp m) 49, 4, p, af, g⟩).run Tryz.prog w = .ok (.value (.bool ((c == 0) && (bi == 0)))) w := by
  go_simp
  by_cases hc : c = 0 <;> by_cases hb : bi = 0 <;> simp [hc, hb]
theorem calmTo_of {P : Program} {S : World → Prop} {v : Value} {x : Result Next} {w : World} (h : x = .ok (.value v) w) (hS : S w) : calmTo P S v x := by rw [h]; exact ⟨rfl, hS⟩

set_option maxHeartbeats 4000000 in
set_option maxRecDepth 100000 in
theorem check_walk (w : World) (c : CV) (t : TS) (ht : In w 1 t.a c.texts.length t.c (sL.at_ c.texts)) :
    Calls Tryz.prog 26 #[.agg (c.f t).toArray] w fun e w' => e = .returned (.int .i64 c.check) ∧ Fr [] w w' := by
  have hmf : ∀ (fn : Fn) (first cap : Array Value) (w : World), (Instr.makeFunc fn first cap).run Tryz.prog w = .ok (.func fn first cap) w := fun _ _ _ _ => rfl
  obtain ⟨Z, hZ⟩ : ∃ Z, c.check = Z := ⟨_, rfl⟩
  rw [hZ]
  obtain ⟨kind, n, job, badge, slot, life, code, bits, prog, texts⟩ := c
  obtain ⟨ta, tc⟩ := t
  simp only at ht
  have hZ := hid hZ
  show Calls _ _ #[.agg #[.int .i64 kind, .int .i64 n, .int .i64 job, .int .i64 badge, .int .i64 slot, .int .i64 life, .int .i64 code, .int .u64 bits, .string prog, .slice ta texts.length tc]] _ _
  rcases hi : inB kind 1 6 with _ | _
  · go_enter Tryz.func26, Tryz.ntmps26
    go_wp2_with (go_at_call 65; refine (in_walk _ _ _ _).mono ?_; rintro e w1 ⟨rfl, rfl⟩; rw [hi])
    go_ret
    have e1 : (80 : Int) = Z := by rw [← hZ.out, CV.check, if_neg (by simp [hi])]
    exact ⟨by rw [← e1]; rfl, (Fr.refl _ _).alloc _⟩
  ·
    have hB : ((w.alloc (.cells #[.int .i64 kind, .int .i64 n, .int .i64 job, .int .i64 badge, .int .i64 slot, .int .i64 life, .int .i64 code, .int .u64 bits, .string prog, .slice ta texts.length tc] 80)).alloc (.cells #[.int .i64 code, .int .u64 bits] 49)).cell? ⟨w.heap.size, 0, none⟩ = some (.int .i64 kind) ∧ ((w.alloc (.cells #[.int .i64 kind, .int .i64 n, .int .i64 job, .int .i64 badge, .int .i64 slot, .int .i64 life, .int .i64 code, .int .u64 bits, .string prog, .slice ta texts.length tc] 80)).alloc (.cells #[.int .i64 code, .int .u64 bits] 49)).cell? ⟨w.heap.size, 1, none⟩ = some (.int .i64 n) ∧ ((w.alloc (.cells #[.int .i64 kind, .int .i64 n, .int .i64 job, .int .i64 badge, .int .i64 slot, .int .i64 life, .int .i64 code, .int .u64 bits, .string prog, .slice ta texts.length tc] 80)).alloc (.cells #[.int .i64 code, .int .u64 bits] 49)).cell? ⟨w.heap.size, 2, none⟩ = some (.int .i64 job) ∧ ((w.alloc (.cells #[.int .i64 kind, .int .i64 n, .int .i64 job, .int .i64 badge, .int .i64 slot, .int .i64 life, .int .i64 code, .int .u64 bits, .string prog, .slice ta texts.length tc] 80)).alloc (.cells #[.int .i64 code, .int .u64 bits] 49)).cell? ⟨w.heap.size, 3, none⟩ = some (.int .i64 badge) ∧ ((w.alloc (.cells #[.int .i64 kind, .int .i64 n, .int .i64 job, .int .i64 badge, .int .i64 slot, .int .i64 life, .int .i64 code, .int .u64 bits, .string prog, .slice ta texts.length tc] 80)).alloc (.cells #[.int .i64 code, .int .u64 bits] 49)).cell? ⟨w.heap.size, 4, none⟩ = some (.int .i64 slot) ∧ ((w.alloc (.cells #[.int .i64 kind, .int .i64 n, .int .i64 job, .int .i64 badge, .int .i64 slot, .int .i64 life, .int .i64 code, .int .u64 bits, .string prog, .slice ta texts.length tc] 80)).alloc (.cells #[.int .i64 code, .int .u64 bits] 49)).cell? ⟨w.heap.size, 5, none⟩ = some (.int .i64 life) ∧ ((w.alloc (.cells #[.int .i64 kind, .int .i64 n, .int .i64 job, .int .i64 badge, .int .i64 slot, .int .i64 life, .int .i64 code, .int .u64 bits, .string prog, .slice ta texts.length tc] 80)).alloc (.cells #[.int .i64 code, .int .u64 bits] 49)).cell? ⟨w.heap.size, 6, none⟩ = some (.int .i64 code) ∧ ((w.alloc (.cells #[.int .i64 kind, .int .i64 n, .int .i64 job, .int .i64 badge, .int .i64 slot, .int .i64 life, .int .i64 code, .int .u64 bits, .string prog, .slice ta texts.length tc] 80)).alloc (.cells #[.int .i64 code, .int .u64 bits] 49)).cell? ⟨w.heap.size, 7, none⟩ = some (.int .u64 bits) ∧ ((w.alloc (.cells #[.int .i64 kind, .int .i64 n, .int .i64 job, .int .i64 badge, .int .i64 slot, .int .i64 life, .int .i64 code, .int .u64 bits, .string prog, .slice ta texts.length tc] 80)).alloc (.cells #[.int .i64 code, .int .u64 bits] 49)).cell? ⟨w.heap.size, 8, none⟩ = some (.string prog) ∧ ((w.alloc (.cells #[.int .i64 kind, .int .i64 n, .int .i64 job, .int .i64 badge, .int .i64 slot, .int .i64 life, .int .i64 code, .int .u64 bits, .string prog, .slice ta texts.length tc] 80)).alloc (.cells #[.int .i64 code, .int .u64 bits] 49)).cell? ⟨w.heap.size, 9, none⟩ = some (.slice ta texts.length tc) ∧ ((w.alloc (.cells #[.int .i64 kind, .int .i64 n, .int .i64 job, .int .i64 badge, .int .i64 slot, .int .i64 life, .int .i64 code, .int .u64 bits, .string prog, .slice ta texts.length tc] 80)).alloc (.cells #[.int .i64 code, .int .u64 bits] 49)).cell? ⟨w.heap.size + 1, 0, none⟩ = some (.int .i64 code) ∧ ((w.alloc (.cells #[.int .i64 kind, .int .i64 n, .int .i64 job, .int .i64 badge, .int .i64 slot, .int .i64 life, .int .i64 code, .int .u64 bits, .string prog, .slice ta texts.length tc] 80)).alloc (.cells #[.int .i64 code, .int .u64 bits] 49)).cell? ⟨w.heap.size + 1, 1, none⟩ = some (.int .u64 bits) := by
      have h0 := blk_alloc_lt (.cells #[.int .i64 code, .int .u64 bits] 49) (blk_alloc_at w (.cells #[.int .i64 kind, .int .i64 n, .int .i64 job, .int .i64 badge, .int .i64 slot, .int .i64 life, .int .i64 code, .int .u64 bits, .string prog, .slice ta texts.length tc] 80) _ rfl)
      have h1 := blk_alloc_at (w.alloc (.cells #[.int .i64 kind, .int .i64 n, .int .i64 job, .int .i64 badge, .int .i64 slot, .int .i64 life, .int .i64 code, .int .u64 bits, .string prog, .slice ta texts.length tc] 80)) (.cells #[.int .i64 code, .int .u64 bits] 49) (w.heap.size + 1) (by simp)
      exact ⟨cell_blk h0 rfl, cell_blk h0 rfl, cell_blk h0 rfl, cell_blk h0 rfl, cell_blk h0 rfl, cell_blk h0 rfl, cell_blk h0 rfl, cell_blk h0 rfl, cell_blk h0 rfl, cell_blk h0 rfl, cell_blk h1 rfl, cell_blk h1 rfl⟩
    have hT : In ((w.alloc (.cells #[.int .i64 kind, .int .i64 n, .int .i64 job, .int .i64 badge, .int .i64 slot, .int .i64 life, .int .i64 code, .int .u64 bits, .string prog, .slice ta texts.length tc] 80)).alloc (.cells #[.int .i64 code, .int .u64 bits] 49)) 1 ta texts.length tc (sL.at_ texts) := ht.fr0 (((Fr.refl _ _).alloc _).alloc _)
    have hF0 : Fr [] w ((w.alloc (.cells #[.int .i64 kind, .int .i64 n, .int .i64 job, .int .i64 badge, .int .i64 slot, .int .i64 life, .int .i64 code, .int .u64 bits, .string prog, .slice ta texts.length tc] 80)).alloc (.cells #[.int .i64 code, .int .u64 bits] 49)) := ((Fr.refl _ _).alloc _).alloc _
    go_enter Tryz.func26, Tryz.ntmps26
    go_wp2_with (go_at_call 65; refine (in_walk _ _ _ _).mono ?_; rintro e w1 ⟨rfl, rfl⟩; rw [hi])
    have HB := hid hB
    have HT := hid hT
    generalize (w.alloc (.cells #[.int .i64 kind, .int .i64 n, .int .i64 job, .int .i64 badge, .int .i64 slot, .int .i64 life, .int .i64 code, .int .u64 bits, .string prog, .slice ta texts.length tc] 80)).alloc (.cells #[.int .i64 code, .int .u64 bits] 49) = w0 at HB HT hF0 ⊢
    generalize w.heap.size = b at HB ⊢
    have HK := hid (fun wx (hS : Fr [] w0 wx) => (And.intro (hS.cell0 HB.out.1) (And.intro (hS.cell0 HB.out.2.1) (And.intro (hS.cell0 HB.out.2.2.1) (And.intro (hS.cell0 HB.out.2.2.2.1) (And.intro (hS.cell0 HB.out.2.2.2.2.1) (And.intro (hS.cell0 HB.out.2.2.2.2.2.1) (And.intro (hS.cell0 HB.out.2.2.2.2.2.2.1) (And.intro (hS.cell0 HB.out.2.2.2.2.2.2.2.1) (And.intro (hS.cell0 HB.out.2.2.2.2.2.2.2.2.1) (And.intro (hS.cell0 HB.out.2.2.2.2.2.2.2.2.2.1) (And.intro (hS.cell0 HB.out.2.2.2.2.2.2.2.2.2.2.1) (hS.cell0 HB.out.2.2.2.2.2.2.2.2.2.2.2)))))))))))))
    have hF0 := hid hF0
    clear hB hT
    refine wp_region_calm (S := fun wx : World => Fr [] w0 wx) (by kernel_rfl) (lexB_of' (by kernel_rfl) (by kernel_rfl)) ((Fr.refl _ _).drew) ?_
    repeat (first | (refine calmRow_free (v := ?_) rfl ?_ ?_; rotate_left; (focus (intro wx hSx; (try dsimp only at hSx); have hcx := HK.out wx hSx; go_simp; (first | with_reducible rfl | exact ⟨rfl, hSx⟩ | (refine (in_walk _ _ _ _).mono ?_; rintro e w1 ⟨rfl, rfl⟩; refine ⟨?_, hSx⟩; with_reducible rfl) | (refine (right_walk _ _ _ _).mono ?_; rintro e w1 ⟨rfl, rfl⟩; refine ⟨?_, hSx⟩; with_reducible rfl) | (refine (check1_walk _ b kind _ hcx.1).mono ?_; rintro e w1 ⟨rfl, rfl⟩; refine ⟨?_, hSx⟩; with_reducible rfl) | (refine (texts_walk _ ta tc texts (HT.out.fr0 hSx)).mono ?_; rintro e w1 ⟨rfl, rfl⟩; refine ⟨?_, hSx⟩; with_reducible rfl)))); (try simp only [Act.put, List.setIfInBounds_toArray, List.set_cons_zero, List.set_cons_succ])) | (refine calmRow_skip ?_ ?_; (focus (go_simp; (try (intro hx; cases hx)); done)); (try simp only [Act.put, List.setIfInBounds_toArray, List.set_cons_zero, List.set_cons_succ])) | (refine calmRow_take (v := ?_) ?_ ?_ ?_; rotate_left; (focus (go_simp; done)); (focus (intro wx hSx; (try dsimp only at hSx); have hcx := HK.out wx hSx; go_simp; (first | with_reducible rfl | exact ⟨rfl, hSx⟩ | (refine (in_walk _ _ _ _).mono ?_; rintro e w1 ⟨rfl, rfl⟩; refine ⟨?_, hSx⟩; with_reducible rfl) | (refine (right_walk _ _ _ _).mono ?_; rintro e w1 ⟨rfl, rfl⟩; refine ⟨?_, hSx⟩; with_reducible rfl) | (refine (check1_walk _ b kind _ hcx.1).mono ?_; rintro e w1 ⟨rfl, rfl⟩; refine ⟨?_, hSx⟩; with_reducible rfl) | (refine (texts_walk _ ta tc texts (HT.out.fr0 hSx)).mono ?_; rintro e w1 ⟨rfl, rfl⟩; refine ⟨?_, hSx⟩; with_reducible rfl)))); (try simp only [Act.put, List.setIfInBounds_toArray, List.set_cons_zero, List.set_cons_succ])))
    rcases hr1 : rgt (hasL kind 110) (n == 0) (inB n 1 1099511627776) with _ | _
    ·
      repeat (first | (refine calmRow_free (v := ?_) rfl ?_ ?_; rotate_left; (focus (intro wx hSx; (try dsimp only at hSx); have hcx := HK.out wx hSx; go_simp; (first | with_reducible rfl | exact ⟨rfl, hSx⟩ | (refine (in_walk _ _ _ _).mono ?_; rintro e w1 ⟨rfl, rfl⟩; refine ⟨?_, hSx⟩; with_reducible rfl) | (refine (right_walk _ _ _ _).mono ?_; rintro e w1 ⟨rfl, rfl⟩; refine ⟨?_, hSx⟩; with_reducible rfl) | (refine (check1_walk _ b kind _ hcx.1).mono ?_; rintro e w1 ⟨rfl, rfl⟩; refine ⟨?_, hSx⟩; with_reducible rfl) | (refine (texts_walk _ ta tc texts (HT.out.fr0 hSx)).mono ?_; rintro e w1 ⟨rfl, rfl⟩; refine ⟨?_, hSx⟩; with_reducible rfl)))); (try simp only [Act.put, List.setIfInBounds_toArray, List.set_cons_zero, List.set_cons_succ])) | (refine calmRow_skip ?_ ?_; (focus (go_simp; (try (intro hx; cases hx)); done)); (try simp only [Act.put, List.setIfInBounds_toArray, List.set_cons_zero, List.set_cons_succ])) | (refine calmRow_take (v := ?_) ?_ ?_ ?_; rotate_left; (focus (go_simp; done)); (focus (intro wx hSx; (try dsimp only at hSx); have hcx := HK.out wx hSx; go_simp; (first | with_reducible rfl | exact ⟨rfl, hSx⟩ | (refine (in_walk _ _ _ _).mono ?_; rintro e w1 ⟨rfl, rfl⟩; refine ⟨?_, hSx⟩; with_reducible rfl) | (refine (right_walk _ _ _ _).mono ?_; rintro e w1 ⟨rfl, rfl⟩; refine ⟨?_, hSx⟩; with_reducible rfl) | (refine (check1_walk _ b kind _ hcx.1).mono ?_; rintro e w1 ⟨rfl, rfl⟩; refine ⟨?_, hSx⟩; with_reducible rfl) | (refine (texts_walk _ ta tc texts (HT.out.fr0 hSx)).mono ?_; rintro e w1 ⟨rfl, rfl⟩; refine ⟨?_, hSx⟩; with_reducible rfl)))); (try simp only [Act.put, List.setIfInBounds_toArray, List.set_cons_zero, List.set_cons_succ])))
      refine calmRow_nil ?_
      intro wn hFx
      try dsimp only at hFx
      go_wp2_with fail
      all_goals
        go_ret
        refine ⟨?_, hF0.out.trans hFx⟩
        have hz : Z = 81 := by
          rw [← hZ.out, CV.check, if_pos hi]
          simp only [CV.r1, hr1, Bool.true_and, Bool.false_and, Bool.and_true, Bool.and_false, Bool.false_eq_true, if_false]
        rw [hz]; rfl
    repeat (first | (refine calmRow_free (v := ?_) rfl ?_ ?_; rotate_left; (focus (intro wx hSx; (try dsimp only at hSx); have hcx := HK.out wx hSx; go_simp; (first | with_reducible rfl | exact ⟨rfl, hSx⟩ | (refine (in_walk _ _ _ _).mono ?_; rintro e w1 ⟨rfl, rfl⟩; refine ⟨?_, hSx⟩; with_reducible rfl) | (refine (right_walk _ _ _ _).mono ?_; rintro e w1 ⟨rfl, rfl⟩; refine ⟨?_, hSx⟩; with_reducible rfl) | (refine (check1_walk _ b kind _ hcx.1).mono ?_; rintro e w1 ⟨rfl, rfl⟩; refine ⟨?_, hSx⟩; with_reducible rfl) | (refine (texts_walk _ ta tc texts (HT.out.fr0 hSx)).mono ?_; rintro e w1 ⟨rfl, rfl⟩; refine ⟨?_, hSx⟩; with_reducible rfl)))); (try simp only [Act.put, List.setIfInBounds_toArray, List.set_cons_zero, List.set_cons_succ])) | (refine calmRow_skip ?_ ?_; (focus (go_simp; (try (intro hx; cases hx)); done)); (try simp only [Act.put, List.setIfInBounds_toArray, List.set_cons_zero, List.set_cons_succ])) | (refine calmRow_take (v := ?_) ?_ ?_ ?_; rotate_left; (focus (go_simp; done)); (focus (intro wx hSx; (try dsimp only at hSx); have hcx := HK.out wx hSx; go_simp; (first | with_reducible rfl | exact ⟨rfl, hSx⟩ | (refine (in_walk _ _ _ _).mono ?_; rintro e w1 ⟨rfl, rfl⟩; refine ⟨?_, hSx⟩; with_reducible rfl) | (refine (right_walk _ _ _ _).mono ?_; rintro e w1 ⟨rfl, rfl⟩; refine ⟨?_, hSx⟩; with_reducible rfl) | (refine (check1_walk _ b kind _ hcx.1).mono ?_; rintro e w1 ⟨rfl, rfl⟩; refine ⟨?_, hSx⟩; with_reducible rfl) | (refine (texts_walk _ ta tc texts (HT.out.fr0 hSx)).mono ?_; rintro e w1 ⟨rfl, rfl⟩; refine ⟨?_, hSx⟩; with_reducible rfl)))); (try simp only [Act.put, List.setIfInBounds_toArray, List.set_cons_zero, List.set_cons_succ])))
    rcases hr2 : rgt (hasL kind 106) (job == 0) (inB job 1 8) with _ | _
    ·
      repeat (first | (refine calmRow_free (v := ?_) rfl ?_ ?_; rotate_left; (focus (intro wx hSx; (try dsimp only at hSx); have hcx := HK.out wx hSx; go_simp; (first | with_reducible rfl | exact ⟨rfl, hSx⟩ | (refine (in_walk _ _ _ _).mono ?_; rintro e w1 ⟨rfl, rfl⟩; refine ⟨?_, hSx⟩; with_reducible rfl) | (refine (right_walk _ _ _ _).mono ?_; rintro e w1 ⟨rfl, rfl⟩; refine ⟨?_, hSx⟩; with_reducible rfl) | (refine (check1_walk _ b kind _ hcx.1).mono ?_; rintro e w1 ⟨rfl, rfl⟩; refine ⟨?_, hSx⟩; with_reducible rfl) | (refine (texts_walk _ ta tc texts (HT.out.fr0 hSx)).mono ?_; rintro e w1 ⟨rfl, rfl⟩; refine ⟨?_, hSx⟩; with_reducible rfl)))); (try simp only [Act.put, List.setIfInBounds_toArray, List.set_cons_zero, List.set_cons_succ])) | (refine calmRow_skip ?_ ?_; (focus (go_simp; (try (intro hx; cases hx)); done)); (try simp only [Act.put, List.setIfInBounds_toArray, List.set_cons_zero, List.set_cons_succ])) | (refine calmRow_take (v := ?_) ?_ ?_ ?_; rotate_left; (focus (go_simp; done)); (focus (intro wx hSx; (try dsimp only at hSx); have hcx := HK.out wx hSx; go_simp; (first | with_reducible rfl | exact ⟨rfl, hSx⟩ | (refine (in_walk _ _ _ _).mono ?_; rintro e w1 ⟨rfl, rfl⟩; refine ⟨?_, hSx⟩; with_reducible rfl) | (refine (right_walk _ _ _ _).mono ?_; rintro e w1 ⟨rfl, rfl⟩; refine ⟨?_, hSx⟩; with_reducible rfl) | (refine (check1_walk _ b kind _ hcx.1).mono ?_; rintro e w1 ⟨rfl, rfl⟩; refine ⟨?_, hSx⟩; with_reducible rfl) | (refine (texts_walk _ ta tc texts (HT.out.fr0 hSx)).mono ?_; rintro e w1 ⟨rfl, rfl⟩; refine ⟨?_, hSx⟩; with_reducible rfl)))); (try simp only [Act.put, List.setIfInBounds_toArray, List.set_cons_zero, List.set_cons_succ])))
      refine calmRow_nil ?_
      intro wn hFx
      try dsimp only at hFx
      go_wp2_with fail
      all_goals
        go_ret
        refine ⟨?_, hF0.out.trans hFx⟩
        have hz : Z = 81 := by
          rw [← hZ.out, CV.check, if_pos hi]
          simp only [CV.r1, CV.r2, hr1, hr2, Bool.true_and, Bool.false_and, Bool.and_true, Bool.and_false, Bool.false_eq_true, if_false]
        rw [hz]; rfl
    repeat (first | (refine calmRow_free (v := ?_) rfl ?_ ?_; rotate_left; (focus (intro wx hSx; (try dsimp only at hSx); have hcx := HK.out wx hSx; go_simp; (first | with_reducible rfl | exact ⟨rfl, hSx⟩ | (refine (in_walk _ _ _ _).mono ?_; rintro e w1 ⟨rfl, rfl⟩; refine ⟨?_, hSx⟩; with_reducible rfl) | (refine (right_walk _ _ _ _).mono ?_; rintro e w1 ⟨rfl, rfl⟩; refine ⟨?_, hSx⟩; with_reducible rfl) | (refine (check1_walk _ b kind _ hcx.1).mono ?_; rintro e w1 ⟨rfl, rfl⟩; refine ⟨?_, hSx⟩; with_reducible rfl) | (refine (texts_walk _ ta tc texts (HT.out.fr0 hSx)).mono ?_; rintro e w1 ⟨rfl, rfl⟩; refine ⟨?_, hSx⟩; with_reducible rfl)))); (try simp only [Act.put, List.setIfInBounds_toArray, List.set_cons_zero, List.set_cons_succ])) | (refine calmRow_skip ?_ ?_; (focus (go_simp; (try (intro hx; cases hx)); done)); (try simp only [Act.put, List.setIfInBounds_toArray, List.set_cons_zero, List.set_cons_succ])) | (refine calmRow_take (v := ?_) ?_ ?_ ?_; rotate_left; (focus (go_simp; done)); (focus (intro wx hSx; (try dsimp only at hSx); have hcx := HK.out wx hSx; go_simp; (first | with_reducible rfl | exact ⟨rfl, hSx⟩ | (refine (in_walk _ _ _ _).mono ?_; rintro e w1 ⟨rfl, rfl⟩; refine ⟨?_, hSx⟩; with_reducible rfl) | (refine (right_walk _ _ _ _).mono ?_; rintro e w1 ⟨rfl, rfl⟩; refine ⟨?_, hSx⟩; with_reducible rfl) | (refine (check1_walk _ b kind _ hcx.1).mono ?_; rintro e w1 ⟨rfl, rfl⟩; refine ⟨?_, hSx⟩; with_reducible rfl) | (refine (texts_walk _ ta tc texts (HT.out.fr0 hSx)).mono ?_; rintro e w1 ⟨rfl, rfl⟩; refine ⟨?_, hSx⟩; with_reducible rfl)))); (try simp only [Act.put, List.setIfInBounds_toArray, List.set_cons_zero, List.set_cons_succ])))
    rcases hr3 : rgt (hasL kind 112) prog.toList.isEmpty (inB prog.size 1 1024) with _ | _
    ·
      repeat (first | (refine calmRow_free (v := ?_) rfl ?_ ?_; rotate_left; (focus (intro wx hSx; (try dsimp only at hSx); have hcx := HK.out wx hSx; go_simp; (first | with_reducible rfl | exact ⟨rfl, hSx⟩ | (refine (in_walk _ _ _ _).mono ?_; rintro e w1 ⟨rfl, rfl⟩; refine ⟨?_, hSx⟩; with_reducible rfl) | (refine (right_walk _ _ _ _).mono ?_; rintro e w1 ⟨rfl, rfl⟩; refine ⟨?_, hSx⟩; with_reducible rfl) | (refine (check1_walk _ b kind _ hcx.1).mono ?_; rintro e w1 ⟨rfl, rfl⟩; refine ⟨?_, hSx⟩; with_reducible rfl) | (refine (texts_walk _ ta tc texts (HT.out.fr0 hSx)).mono ?_; rintro e w1 ⟨rfl, rfl⟩; refine ⟨?_, hSx⟩; with_reducible rfl)))); (try simp only [Act.put, List.setIfInBounds_toArray, List.set_cons_zero, List.set_cons_succ])) | (refine calmRow_skip ?_ ?_; (focus (go_simp; (try (intro hx; cases hx)); done)); (try simp only [Act.put, List.setIfInBounds_toArray, List.set_cons_zero, List.set_cons_succ])) | (refine calmRow_take (v := ?_) ?_ ?_ ?_; rotate_left; (focus (go_simp; done)); (focus (intro wx hSx; (try dsimp only at hSx); have hcx := HK.out wx hSx; go_simp; (first | with_reducible rfl | exact ⟨rfl, hSx⟩ | (refine (in_walk _ _ _ _).mono ?_; rintro e w1 ⟨rfl, rfl⟩; refine ⟨?_, hSx⟩; with_reducible rfl) | (refine (right_walk _ _ _ _).mono ?_; rintro e w1 ⟨rfl, rfl⟩; refine ⟨?_, hSx⟩; with_reducible rfl) | (refine (check1_walk _ b kind _ hcx.1).mono ?_; rintro e w1 ⟨rfl, rfl⟩; refine ⟨?_, hSx⟩; with_reducible rfl) | (refine (texts_walk _ ta tc texts (HT.out.fr0 hSx)).mono ?_; rintro e w1 ⟨rfl, rfl⟩; refine ⟨?_, hSx⟩; with_reducible rfl)))); (try simp only [Act.put, List.setIfInBounds_toArray, List.set_cons_zero, List.set_cons_succ])))
      refine calmRow_nil ?_
      intro wn hFx
      try dsimp only at hFx
      go_wp2_with fail
      all_goals
        go_ret
        refine ⟨?_, hF0.out.trans hFx⟩
        have hz : Z = 81 := by
          rw [← hZ.out, CV.check, if_pos hi]
          simp only [CV.r1, CV.r2, CV.r3, hr1, hr2, hr3, Bool.true_and, Bool.false_and, Bool.and_true, Bool.and_false, Bool.false_eq_true, if_false]
        rw [hz]; rfl
    repeat (first | (refine calmRow_free (v := ?_) rfl ?_ ?_; rotate_left; (focus (intro wx hSx; (try dsimp only at hSx); have hcx := HK.out wx hSx; go_simp; (first | with_reducible rfl | exact ⟨rfl, hSx⟩ | (refine (in_walk _ _ _ _).mono ?_; rintro e w1 ⟨rfl, rfl⟩; refine ⟨?_, hSx⟩; with_reducible rfl) | (refine (right_walk _ _ _ _).mono ?_; rintro e w1 ⟨rfl, rfl⟩; refine ⟨?_, hSx⟩; with_reducible rfl) | (refine (check1_walk _ b kind _ hcx.1).mono ?_; rintro e w1 ⟨rfl, rfl⟩; refine ⟨?_, hSx⟩; with_reducible rfl) | (refine (texts_walk _ ta tc texts (HT.out.fr0 hSx)).mono ?_; rintro e w1 ⟨rfl, rfl⟩; refine ⟨?_, hSx⟩; with_reducible rfl)))); (try simp only [Act.put, List.setIfInBounds_toArray, List.set_cons_zero, List.set_cons_succ])) | (refine calmRow_skip ?_ ?_; (focus (go_simp; (try (intro hx; cases hx)); done)); (try simp only [Act.put, List.setIfInBounds_toArray, List.set_cons_zero, List.set_cons_succ])) | (refine calmRow_take (v := ?_) ?_ ?_ ?_; rotate_left; (focus (go_simp; done)); (focus (intro wx hSx; (try dsimp only at hSx); have hcx := HK.out wx hSx; go_simp; (first | with_reducible rfl | exact ⟨rfl, hSx⟩ | (refine (in_walk _ _ _ _).mono ?_; rintro e w1 ⟨rfl, rfl⟩; refine ⟨?_, hSx⟩; with_reducible rfl) | (refine (right_walk _ _ _ _).mono ?_; rintro e w1 ⟨rfl, rfl⟩; refine ⟨?_, hSx⟩; with_reducible rfl) | (refine (check1_walk _ b kind _ hcx.1).mono ?_; rintro e w1 ⟨rfl, rfl⟩; refine ⟨?_, hSx⟩; with_reducible rfl) | (refine (texts_walk _ ta tc texts (HT.out.fr0 hSx)).mono ?_; rintro e w1 ⟨rfl, rfl⟩; refine ⟨?_, hSx⟩; with_reducible rfl)))); (try simp only [Act.put, List.setIfInBounds_toArray, List.set_cons_zero, List.set_cons_succ])))
    rcases hr4 : rgt (hasL kind 98) (badge == 0) (inB badge 1 1099511627776) with _ | _
    ·
      repeat (first | (refine calmRow_free (v := ?_) rfl ?_ ?_; rotate_left; (focus (intro wx hSx; (try dsimp only at hSx); have hcx := HK.out wx hSx; go_simp; (first | with_reducible rfl | exact ⟨rfl, hSx⟩ | (refine (in_walk _ _ _ _).mono ?_; rintro e w1 ⟨rfl, rfl⟩; refine ⟨?_, hSx⟩; with_reducible rfl) | (refine (right_walk _ _ _ _).mono ?_; rintro e w1 ⟨rfl, rfl⟩; refine ⟨?_, hSx⟩; with_reducible rfl) | (refine (check1_walk _ b kind _ hcx.1).mono ?_; rintro e w1 ⟨rfl, rfl⟩; refine ⟨?_, hSx⟩; with_reducible rfl) | (refine (texts_walk _ ta tc texts (HT.out.fr0 hSx)).mono ?_; rintro e w1 ⟨rfl, rfl⟩; refine ⟨?_, hSx⟩; with_reducible rfl)))); (try simp only [Act.put, List.setIfInBounds_toArray, List.set_cons_zero, List.set_cons_succ])) | (refine calmRow_skip ?_ ?_; (focus (go_simp; (try (intro hx; cases hx)); done)); (try simp only [Act.put, List.setIfInBounds_toArray, List.set_cons_zero, List.set_cons_succ])) | (refine calmRow_take (v := ?_) ?_ ?_ ?_; rotate_left; (focus (go_simp; done)); (focus (intro wx hSx; (try dsimp only at hSx); have hcx := HK.out wx hSx; go_simp; (first | with_reducible rfl | exact ⟨rfl, hSx⟩ | (refine (in_walk _ _ _ _).mono ?_; rintro e w1 ⟨rfl, rfl⟩; refine ⟨?_, hSx⟩; with_reducible rfl) | (refine (right_walk _ _ _ _).mono ?_; rintro e w1 ⟨rfl, rfl⟩; refine ⟨?_, hSx⟩; with_reducible rfl) | (refine (check1_walk _ b kind _ hcx.1).mono ?_; rintro e w1 ⟨rfl, rfl⟩; refine ⟨?_, hSx⟩; with_reducible rfl) | (refine (texts_walk _ ta tc texts (HT.out.fr0 hSx)).mono ?_; rintro e w1 ⟨rfl, rfl⟩; refine ⟨?_, hSx⟩; with_reducible rfl)))); (try simp only [Act.put, List.setIfInBounds_toArray, List.set_cons_zero, List.set_cons_succ])))
      refine calmRow_nil ?_
      intro wn hFx
      try dsimp only at hFx
      go_wp2_with fail
      all_goals
        go_ret
        refine ⟨?_, hF0.out.trans hFx⟩
        have hz : Z = 81 := by
          rw [← hZ.out, CV.check, if_pos hi]
          simp only [CV.r1, CV.r2, CV.r3, CV.r4, hr1, hr2, hr3, hr4, Bool.true_and, Bool.false_and, Bool.and_true, Bool.and_false, Bool.false_eq_true, if_false]
        rw [hz]; rfl
    repeat (first | (refine calmRow_free (v := ?_) rfl ?_ ?_; rotate_left; (focus (intro wx hSx; (try dsimp only at hSx); have hcx := HK.out wx hSx; go_simp; (first | with_reducible rfl | exact ⟨rfl, hSx⟩ | (refine (in_walk _ _ _ _).mono ?_; rintro e w1 ⟨rfl, rfl⟩; refine ⟨?_, hSx⟩; with_reducible rfl) | (refine (right_walk _ _ _ _).mono ?_; rintro e w1 ⟨rfl, rfl⟩; refine ⟨?_, hSx⟩; with_reducible rfl) | (refine (check1_walk _ b kind _ hcx.1).mono ?_; rintro e w1 ⟨rfl, rfl⟩; refine ⟨?_, hSx⟩; with_reducible rfl) | (refine (texts_walk _ ta tc texts (HT.out.fr0 hSx)).mono ?_; rintro e w1 ⟨rfl, rfl⟩; refine ⟨?_, hSx⟩; with_reducible rfl)))); (try simp only [Act.put, List.setIfInBounds_toArray, List.set_cons_zero, List.set_cons_succ])) | (refine calmRow_skip ?_ ?_; (focus (go_simp; (try (intro hx; cases hx)); done)); (try simp only [Act.put, List.setIfInBounds_toArray, List.set_cons_zero, List.set_cons_succ])) | (refine calmRow_take (v := ?_) ?_ ?_ ?_; rotate_left; (focus (go_simp; done)); (focus (intro wx hSx; (try dsimp only at hSx); have hcx := HK.out wx hSx; go_simp; (first | with_reducible rfl | exact ⟨rfl, hSx⟩ | (refine (in_walk _ _ _ _).mono ?_; rintro e w1 ⟨rfl, rfl⟩; refine ⟨?_, hSx⟩; with_reducible rfl) | (refine (right_walk _ _ _ _).mono ?_; rintro e w1 ⟨rfl, rfl⟩; refine ⟨?_, hSx⟩; with_reducible rfl) | (refine (check1_walk _ b kind _ hcx.1).mono ?_; rintro e w1 ⟨rfl, rfl⟩; refine ⟨?_, hSx⟩; with_reducible rfl) | (refine (texts_walk _ ta tc texts (HT.out.fr0 hSx)).mono ?_; rintro e w1 ⟨rfl, rfl⟩; refine ⟨?_, hSx⟩; with_reducible rfl)))); (try simp only [Act.put, List.setIfInBounds_toArray, List.set_cons_zero, List.set_cons_succ])))
    refine calmRow_sym (slot == 0) (v := .pointer (some ⟨b, 5, none⟩)) ?_ ?_ ?_
    · cases slot == 0 <;> rfl
    · intro hb wx hSx
      have hcx := HK.out wx hSx
      simp only [hb, if_true]
      go_simp
      try (first | with_reducible rfl | exact ⟨rfl, hSx⟩ | (refine (in_walk _ _ _ _).mono ?_; rintro e w1 ⟨rfl, rfl⟩; exact ⟨rfl, hSx⟩))
    (try simp only [Act.put, List.setIfInBounds_toArray, List.set_cons_zero, List.set_cons_succ])
    refine calmRow_sym (slot == 0) (v := .int .i64 life) ?_ ?_ ?_
    · cases slot == 0 <;> rfl
    · intro hb wx hSx
      have hcx := HK.out wx hSx
      simp only [hb, if_true]
      go_simp
      try (first | with_reducible rfl | exact ⟨rfl, hSx⟩ | (refine (in_walk _ _ _ _).mono ?_; rintro e w1 ⟨rfl, rfl⟩; exact ⟨rfl, hSx⟩))
    (try simp only [Act.put, List.setIfInBounds_toArray, List.set_cons_zero, List.set_cons_succ])
    refine calmRow_sym (slot == 0) (v := .bool (life == 0)) ?_ ?_ ?_
    · cases slot == 0 <;> rfl
    · intro hb wx hSx
      have hcx := HK.out wx hSx
      simp only [hb, if_true]
      go_simp
      try (first | with_reducible rfl | exact ⟨rfl, hSx⟩ | (refine (in_walk _ _ _ _).mono ?_; rintro e w1 ⟨rfl, rfl⟩; exact ⟨rfl, hSx⟩))
    (try simp only [Act.put, List.setIfInBounds_toArray, List.set_cons_zero, List.set_cons_succ])
    refine calmRow_pick (.bool ((slot == 0) && (life == 0))) ?_ ?_ ?_
    · rfl
    · intro wx hSx
      cases slot == 0 <;> (simp only [Bool.true_and, Bool.false_and, if_true, Bool.false_eq_true, if_false]; go_simp; try (first | with_reducible rfl | exact ⟨rfl, hSx⟩))
    (try simp only [Act.put, List.setIfInBounds_toArray, List.set_cons_zero, List.set_cons_succ])
    repeat (first | (refine calmRow_free (v := ?_) rfl ?_ ?_; rotate_left; (focus (intro wx hSx; (try dsimp only at hSx); have hcx := HK.out wx hSx; go_simp; (first | with_reducible rfl | exact ⟨rfl, hSx⟩ | (refine (in_walk _ _ _ _).mono ?_; rintro e w1 ⟨rfl, rfl⟩; refine ⟨?_, hSx⟩; with_reducible rfl) | (refine (right_walk _ _ _ _).mono ?_; rintro e w1 ⟨rfl, rfl⟩; refine ⟨?_, hSx⟩; with_reducible rfl) | (refine (check1_walk _ b kind _ hcx.1).mono ?_; rintro e w1 ⟨rfl, rfl⟩; refine ⟨?_, hSx⟩; with_reducible rfl) | (refine (texts_walk _ ta tc texts (HT.out.fr0 hSx)).mono ?_; rintro e w1 ⟨rfl, rfl⟩; refine ⟨?_, hSx⟩; with_reducible rfl)))); (try simp only [Act.put, List.setIfInBounds_toArray, List.set_cons_zero, List.set_cons_succ])) | (refine calmRow_skip ?_ ?_; (focus (go_simp; (try (intro hx; cases hx)); done)); (try simp only [Act.put, List.setIfInBounds_toArray, List.set_cons_zero, List.set_cons_succ])) | (refine calmRow_take (v := ?_) ?_ ?_ ?_; rotate_left; (focus (go_simp; done)); (focus (intro wx hSx; (try dsimp only at hSx); have hcx := HK.out wx hSx; go_simp; (first | with_reducible rfl | exact ⟨rfl, hSx⟩ | (refine (in_walk _ _ _ _).mono ?_; rintro e w1 ⟨rfl, rfl⟩; refine ⟨?_, hSx⟩; with_reducible rfl) | (refine (right_walk _ _ _ _).mono ?_; rintro e w1 ⟨rfl, rfl⟩; refine ⟨?_, hSx⟩; with_reducible rfl) | (refine (check1_walk _ b kind _ hcx.1).mono ?_; rintro e w1 ⟨rfl, rfl⟩; refine ⟨?_, hSx⟩; with_reducible rfl) | (refine (texts_walk _ ta tc texts (HT.out.fr0 hSx)).mono ?_; rintro e w1 ⟨rfl, rfl⟩; refine ⟨?_, hSx⟩; with_reducible rfl)))); (try simp only [Act.put, List.setIfInBounds_toArray, List.set_cons_zero, List.set_cons_succ])))
    refine calmRow_sym (inB slot 0 7) (v := .pointer (some ⟨b, 5, none⟩)) ?_ ?_ ?_
    · cases inB slot 0 7 <;> rfl
    · intro hb wx hSx
      have hcx := HK.out wx hSx
      simp only [hb, if_true]
      go_simp
      try (first | with_reducible rfl | exact ⟨rfl, hSx⟩ | (refine (in_walk _ _ _ _).mono ?_; rintro e w1 ⟨rfl, rfl⟩; exact ⟨rfl, hSx⟩))
    (try simp only [Act.put, List.setIfInBounds_toArray, List.set_cons_zero, List.set_cons_succ])
    refine calmRow_sym (inB slot 0 7) (v := .int .i64 life) ?_ ?_ ?_
    · cases inB slot 0 7 <;> rfl
    · intro hb wx hSx
      have hcx := HK.out wx hSx
      simp only [hb, if_true]
      go_simp
      try (first | with_reducible rfl | exact ⟨rfl, hSx⟩ | (refine (in_walk _ _ _ _).mono ?_; rintro e w1 ⟨rfl, rfl⟩; exact ⟨rfl, hSx⟩))
    (try simp only [Act.put, List.setIfInBounds_toArray, List.set_cons_zero, List.set_cons_succ])
    refine calmRow_sym (inB slot 0 7) (v := .bool (inB life 1 1099511627776)) ?_ ?_ ?_
    · cases inB slot 0 7 <;> rfl
    · intro hb wx hSx
      have hcx := HK.out wx hSx
      simp only [hb, if_true]
      go_simp
      try (first | with_reducible rfl | exact ⟨rfl, hSx⟩ | (refine (in_walk _ _ _ _).mono ?_; rintro e w1 ⟨rfl, rfl⟩; exact ⟨rfl, hSx⟩))
    (try simp only [Act.put, List.setIfInBounds_toArray, List.set_cons_zero, List.set_cons_succ])
    refine calmRow_pick (.bool ((inB slot 0 7) && (inB life 1 1099511627776))) ?_ ?_ ?_
    · rfl
    · intro wx hSx
      cases inB slot 0 7 <;> (simp only [Bool.true_and, Bool.false_and, if_true, Bool.false_eq_true, if_false]; go_simp; try (first | with_reducible rfl | exact ⟨rfl, hSx⟩))
    (try simp only [Act.put, List.setIfInBounds_toArray, List.set_cons_zero, List.set_cons_succ])
    repeat (first | (refine calmRow_free (v := ?_) rfl ?_ ?_; rotate_left; (focus (intro wx hSx; (try dsimp only at hSx); have hcx := HK.out wx hSx; go_simp; (first | with_reducible rfl | exact ⟨rfl, hSx⟩ | (refine (in_walk _ _ _ _).mono ?_; rintro e w1 ⟨rfl, rfl⟩; refine ⟨?_, hSx⟩; with_reducible rfl) | (refine (right_walk _ _ _ _).mono ?_; rintro e w1 ⟨rfl, rfl⟩; refine ⟨?_, hSx⟩; with_reducible rfl) | (refine (check1_walk _ b kind _ hcx.1).mono ?_; rintro e w1 ⟨rfl, rfl⟩; refine ⟨?_, hSx⟩; with_reducible rfl) | (refine (texts_walk _ ta tc texts (HT.out.fr0 hSx)).mono ?_; rintro e w1 ⟨rfl, rfl⟩; refine ⟨?_, hSx⟩; with_reducible rfl)))); (try simp only [Act.put, List.setIfInBounds_toArray, List.set_cons_zero, List.set_cons_succ])) | (refine calmRow_skip ?_ ?_; (focus (go_simp; (try (intro hx; cases hx)); done)); (try simp only [Act.put, List.setIfInBounds_toArray, List.set_cons_zero, List.set_cons_succ])) | (refine calmRow_take (v := ?_) ?_ ?_ ?_; rotate_left; (focus (go_simp; done)); (focus (intro wx hSx; (try dsimp only at hSx); have hcx := HK.out wx hSx; go_simp; (first | with_reducible rfl | exact ⟨rfl, hSx⟩ | (refine (in_walk _ _ _ _).mono ?_; rintro e w1 ⟨rfl, rfl⟩; refine ⟨?_, hSx⟩; with_reducible rfl) | (refine (right_walk _ _ _ _).mono ?_; rintro e w1 ⟨rfl, rfl⟩; refine ⟨?_, hSx⟩; with_reducible rfl) | (refine (check1_walk _ b kind _ hcx.1).mono ?_; rintro e w1 ⟨rfl, rfl⟩; refine ⟨?_, hSx⟩; with_reducible rfl) | (refine (texts_walk _ ta tc texts (HT.out.fr0 hSx)).mono ?_; rintro e w1 ⟨rfl, rfl⟩; refine ⟨?_, hSx⟩; with_reducible rfl)))); (try simp only [Act.put, List.setIfInBounds_toArray, List.set_cons_zero, List.set_cons_succ])))
    rcases hr5 : rgt (hasL kind 115) ((slot == 0) && (life == 0)) ((inB slot 0 7) && (inB life 1 1099511627776)) with _ | _
    ·
      repeat (first | (refine calmRow_free (v := ?_) rfl ?_ ?_; rotate_left; (focus (intro wx hSx; (try dsimp only at hSx); have hcx := HK.out wx hSx; go_simp; (first | with_reducible rfl | exact ⟨rfl, hSx⟩ | (refine (in_walk _ _ _ _).mono ?_; rintro e w1 ⟨rfl, rfl⟩; refine ⟨?_, hSx⟩; with_reducible rfl) | (refine (right_walk _ _ _ _).mono ?_; rintro e w1 ⟨rfl, rfl⟩; refine ⟨?_, hSx⟩; with_reducible rfl) | (refine (check1_walk _ b kind _ hcx.1).mono ?_; rintro e w1 ⟨rfl, rfl⟩; refine ⟨?_, hSx⟩; with_reducible rfl) | (refine (texts_walk _ ta tc texts (HT.out.fr0 hSx)).mono ?_; rintro e w1 ⟨rfl, rfl⟩; refine ⟨?_, hSx⟩; with_reducible rfl)))); (try simp only [Act.put, List.setIfInBounds_toArray, List.set_cons_zero, List.set_cons_succ])) | (refine calmRow_skip ?_ ?_; (focus (go_simp; (try (intro hx; cases hx)); done)); (try simp only [Act.put, List.setIfInBounds_toArray, List.set_cons_zero, List.set_cons_succ])) | (refine calmRow_take (v := ?_) ?_ ?_ ?_; rotate_left; (focus (go_simp; done)); (focus (intro wx hSx; (try dsimp only at hSx); have hcx := HK.out wx hSx; go_simp; (first | with_reducible rfl | exact ⟨rfl, hSx⟩ | (refine (in_walk _ _ _ _).mono ?_; rintro e w1 ⟨rfl, rfl⟩; refine ⟨?_, hSx⟩; with_reducible rfl) | (refine (right_walk _ _ _ _).mono ?_; rintro e w1 ⟨rfl, rfl⟩; refine ⟨?_, hSx⟩; with_reducible rfl) | (refine (check1_walk _ b kind _ hcx.1).mono ?_; rintro e w1 ⟨rfl, rfl⟩; refine ⟨?_, hSx⟩; with_reducible rfl) | (refine (texts_walk _ ta tc texts (HT.out.fr0 hSx)).mono ?_; rintro e w1 ⟨rfl, rfl⟩; refine ⟨?_, hSx⟩; with_reducible rfl)))); (try simp only [Act.put, List.setIfInBounds_toArray, List.set_cons_zero, List.set_cons_succ])))
      refine calmRow_nil ?_
      intro wn hFx
      try dsimp only at hFx
      go_wp2_with fail
      all_goals
        go_ret
        refine ⟨?_, hF0.out.trans hFx⟩
        have hz : Z = 81 := by
          rw [← hZ.out, CV.check, if_pos hi]
          simp only [CV.r1, CV.r2, CV.r3, CV.r4, CV.r5, hr1, hr2, hr3, hr4, hr5, Bool.true_and, Bool.false_and, Bool.and_true, Bool.and_false, Bool.false_eq_true, if_false]
        rw [hz]; rfl
    repeat (first | (refine calmRow_free (v := ?_) rfl ?_ ?_; rotate_left; (focus (intro wx hSx; (try dsimp only at hSx); have hcx := HK.out wx hSx; go_simp; (first | with_reducible rfl | exact ⟨rfl, hSx⟩ | (refine (in_walk _ _ _ _).mono ?_; rintro e w1 ⟨rfl, rfl⟩; refine ⟨?_, hSx⟩; with_reducible rfl) | (refine (right_walk _ _ _ _).mono ?_; rintro e w1 ⟨rfl, rfl⟩; refine ⟨?_, hSx⟩; with_reducible rfl) | (refine (check1_walk _ b kind _ hcx.1).mono ?_; rintro e w1 ⟨rfl, rfl⟩; refine ⟨?_, hSx⟩; with_reducible rfl) | (refine (texts_walk _ ta tc texts (HT.out.fr0 hSx)).mono ?_; rintro e w1 ⟨rfl, rfl⟩; refine ⟨?_, hSx⟩; with_reducible rfl)))); (try simp only [Act.put, List.setIfInBounds_toArray, List.set_cons_zero, List.set_cons_succ])) | (refine calmRow_skip ?_ ?_; (focus (go_simp; (try (intro hx; cases hx)); done)); (try simp only [Act.put, List.setIfInBounds_toArray, List.set_cons_zero, List.set_cons_succ])) | (refine calmRow_take (v := ?_) ?_ ?_ ?_; rotate_left; (focus (go_simp; done)); (focus (intro wx hSx; (try dsimp only at hSx); have hcx := HK.out wx hSx; go_simp; (first | with_reducible rfl | exact ⟨rfl, hSx⟩ | (refine (in_walk _ _ _ _).mono ?_; rintro e w1 ⟨rfl, rfl⟩; refine ⟨?_, hSx⟩; with_reducible rfl) | (refine (right_walk _ _ _ _).mono ?_; rintro e w1 ⟨rfl, rfl⟩; refine ⟨?_, hSx⟩; with_reducible rfl) | (refine (check1_walk _ b kind _ hcx.1).mono ?_; rintro e w1 ⟨rfl, rfl⟩; refine ⟨?_, hSx⟩; with_reducible rfl) | (refine (texts_walk _ ta tc texts (HT.out.fr0 hSx)).mono ?_; rintro e w1 ⟨rfl, rfl⟩; refine ⟨?_, hSx⟩; with_reducible rfl)))); (try simp only [Act.put, List.setIfInBounds_toArray, List.set_cons_zero, List.set_cons_succ])))
    rcases hr6 : rgt (hasL kind 116) ((texts.length : Int) == 0) (textsB texts) with _ | _
    ·
      repeat (first | (refine calmRow_free (v := ?_) rfl ?_ ?_; rotate_left; (focus (intro wx hSx; (try dsimp only at hSx); have hcx := HK.out wx hSx; go_simp; (first | with_reducible rfl | exact ⟨rfl, hSx⟩ | (refine (in_walk _ _ _ _).mono ?_; rintro e w1 ⟨rfl, rfl⟩; refine ⟨?_, hSx⟩; with_reducible rfl) | (refine (right_walk _ _ _ _).mono ?_; rintro e w1 ⟨rfl, rfl⟩; refine ⟨?_, hSx⟩; with_reducible rfl) | (refine (check1_walk _ b kind _ hcx.1).mono ?_; rintro e w1 ⟨rfl, rfl⟩; refine ⟨?_, hSx⟩; with_reducible rfl) | (refine (texts_walk _ ta tc texts (HT.out.fr0 hSx)).mono ?_; rintro e w1 ⟨rfl, rfl⟩; refine ⟨?_, hSx⟩; with_reducible rfl)))); (try simp only [Act.put, List.setIfInBounds_toArray, List.set_cons_zero, List.set_cons_succ])) | (refine calmRow_skip ?_ ?_; (focus (go_simp; (try (intro hx; cases hx)); done)); (try simp only [Act.put, List.setIfInBounds_toArray, List.set_cons_zero, List.set_cons_succ])) | (refine calmRow_take (v := ?_) ?_ ?_ ?_; rotate_left; (focus (go_simp; done)); (focus (intro wx hSx; (try dsimp only at hSx); have hcx := HK.out wx hSx; go_simp; (first | with_reducible rfl | exact ⟨rfl, hSx⟩ | (refine (in_walk _ _ _ _).mono ?_; rintro e w1 ⟨rfl, rfl⟩; refine ⟨?_, hSx⟩; with_reducible rfl) | (refine (right_walk _ _ _ _).mono ?_; rintro e w1 ⟨rfl, rfl⟩; refine ⟨?_, hSx⟩; with_reducible rfl) | (refine (check1_walk _ b kind _ hcx.1).mono ?_; rintro e w1 ⟨rfl, rfl⟩; refine ⟨?_, hSx⟩; with_reducible rfl) | (refine (texts_walk _ ta tc texts (HT.out.fr0 hSx)).mono ?_; rintro e w1 ⟨rfl, rfl⟩; refine ⟨?_, hSx⟩; with_reducible rfl)))); (try simp only [Act.put, List.setIfInBounds_toArray, List.set_cons_zero, List.set_cons_succ])))
      refine calmRow_nil ?_
      intro wn hFx
      try dsimp only at hFx
      go_wp2_with fail
      all_goals
        go_ret
        refine ⟨?_, hF0.out.trans hFx⟩
        have hz : Z = 81 := by
          rw [← hZ.out, CV.check, if_pos hi]
          simp only [CV.r1, CV.r2, CV.r3, CV.r4, CV.r5, CV.r6, hr1, hr2, hr3, hr4, hr5, hr6, Bool.true_and, Bool.false_and, Bool.and_true, Bool.and_false, Bool.false_eq_true, if_false]
        rw [hz]; rfl
    iterate 4 (first | (refine calmRow_free (v := ?_) rfl ?_ ?_; rotate_left; (focus (intro wx hSx; (try dsimp only at hSx); have hcx := HK.out wx hSx; go_simp; (first | with_reducible rfl | exact ⟨rfl, hSx⟩ | (refine (in_walk _ _ _ _).mono ?_; rintro e w1 ⟨rfl, rfl⟩; refine ⟨?_, hSx⟩; with_reducible rfl) | (refine (right_walk _ _ _ _).mono ?_; rintro e w1 ⟨rfl, rfl⟩; refine ⟨?_, hSx⟩; with_reducible rfl) | (refine (check1_walk _ b kind _ hcx.1).mono ?_; rintro e w1 ⟨rfl, rfl⟩; refine ⟨?_, hSx⟩; with_reducible rfl) | (refine (texts_walk _ ta tc texts (HT.out.fr0 hSx)).mono ?_; rintro e w1 ⟨rfl, rfl⟩; refine ⟨?_, hSx⟩; with_reducible rfl)))); (try simp only [Act.put, List.setIfInBounds_toArray, List.set_cons_zero, List.set_cons_succ])) | (refine calmRow_skip ?_ ?_; (focus (go_simp; (try (intro hx; cases hx)); done)); (try simp only [Act.put, List.setIfInBounds_toArray, List.set_cons_zero, List.set_cons_succ])) | (refine calmRow_take (v := ?_) ?_ ?_ ?_; rotate_left; (focus (go_simp; done)); (focus (intro wx hSx; (try dsimp only at hSx); have hcx := HK.out wx hSx; go_simp; (first | with_reducible rfl | exact ⟨rfl, hSx⟩ | (refine (in_walk _ _ _ _).mono ?_; rintro e w1 ⟨rfl, rfl⟩; refine ⟨?_, hSx⟩; with_reducible rfl) | (refine (right_walk _ _ _ _).mono ?_; rintro e w1 ⟨rfl, rfl⟩; refine ⟨?_, hSx⟩; with_reducible rfl) | (refine (check1_walk _ b kind _ hcx.1).mono ?_; rintro e w1 ⟨rfl, rfl⟩; refine ⟨?_, hSx⟩; with_reducible rfl) | (refine (texts_walk _ ta tc texts (HT.out.fr0 hSx)).mono ?_; rintro e w1 ⟨rfl, rfl⟩; refine ⟨?_, hSx⟩; with_reducible rfl)))); (try simp only [Act.put, List.setIfInBounds_toArray, List.set_cons_zero, List.set_cons_succ])))
    refine calmRow_take (v := .bool ((code == 0) && (bits == 0))) ?_ ?_ ?_
    · go_simp
    · intro wx hSx
      exact calmTo_of (res_eql _ code bits 91 92 _ _ _ _ wx rfl rfl) hSx
    (try simp only [Act.put, List.setIfInBounds_toArray, List.set_cons_zero, List.set_cons_succ])
    repeat (first | (refine calmRow_free (v := ?_) rfl ?_ ?_; rotate_left; (focus (intro wx hSx; (try dsimp only at hSx); have hcx := HK.out wx hSx; go_simp; (first | with_reducible rfl | exact ⟨rfl, hSx⟩ | (refine (in_walk _ _ _ _).mono ?_; rintro e w1 ⟨rfl, rfl⟩; refine ⟨?_, hSx⟩; with_reducible rfl) | (refine (right_walk _ _ _ _).mono ?_; rintro e w1 ⟨rfl, rfl⟩; refine ⟨?_, hSx⟩; with_reducible rfl) | (refine (check1_walk _ b kind _ hcx.1).mono ?_; rintro e w1 ⟨rfl, rfl⟩; refine ⟨?_, hSx⟩; with_reducible rfl) | (refine (texts_walk _ ta tc texts (HT.out.fr0 hSx)).mono ?_; rintro e w1 ⟨rfl, rfl⟩; refine ⟨?_, hSx⟩; with_reducible rfl)))); (try simp only [Act.put, List.setIfInBounds_toArray, List.set_cons_zero, List.set_cons_succ])) | (refine calmRow_skip ?_ ?_; (focus (go_simp; (try (intro hx; cases hx)); done)); (try simp only [Act.put, List.setIfInBounds_toArray, List.set_cons_zero, List.set_cons_succ])) | (refine calmRow_take (v := ?_) ?_ ?_ ?_; rotate_left; (focus (go_simp; done)); (focus (intro wx hSx; (try dsimp only at hSx); have hcx := HK.out wx hSx; go_simp; (first | with_reducible rfl | exact ⟨rfl, hSx⟩ | (refine (in_walk _ _ _ _).mono ?_; rintro e w1 ⟨rfl, rfl⟩; refine ⟨?_, hSx⟩; with_reducible rfl) | (refine (right_walk _ _ _ _).mono ?_; rintro e w1 ⟨rfl, rfl⟩; refine ⟨?_, hSx⟩; with_reducible rfl) | (refine (check1_walk _ b kind _ hcx.1).mono ?_; rintro e w1 ⟨rfl, rfl⟩; refine ⟨?_, hSx⟩; with_reducible rfl) | (refine (texts_walk _ ta tc texts (HT.out.fr0 hSx)).mono ?_; rintro e w1 ⟨rfl, rfl⟩; refine ⟨?_, hSx⟩; with_reducible rfl)))); (try simp only [Act.put, List.setIfInBounds_toArray, List.set_cons_zero, List.set_cons_succ])))
    refine calmRow_sym (inB code 0 7) (v := .pointer (some ⟨b + 1, 0, none⟩)) ?_ ?_ ?_
    · cases inB code 0 7 <;> rfl
    · intro hb wx hSx
      have hcx := HK.out wx hSx
      simp only [hb, if_true]
      go_simp
      try (first | with_reducible rfl | exact ⟨rfl, hSx⟩ | (refine (in_walk _ _ _ _).mono ?_; rintro e w1 ⟨rfl, rfl⟩; exact ⟨rfl, hSx⟩))
    (try simp only [Act.put, List.setIfInBounds_toArray, List.set_cons_zero, List.set_cons_succ])
    refine calmRow_sym (inB code 0 7) (v := .int .i64 code) ?_ ?_ ?_
    · cases inB code 0 7 <;> rfl
    · intro hb wx hSx
      have hcx := HK.out wx hSx
      simp only [hb, if_true]
      go_simp
      try (first | with_reducible rfl | exact ⟨rfl, hSx⟩ | (refine (in_walk _ _ _ _).mono ?_; rintro e w1 ⟨rfl, rfl⟩; exact ⟨rfl, hSx⟩))
    (try simp only [Act.put, List.setIfInBounds_toArray, List.set_cons_zero, List.set_cons_succ])
    refine calmRow_sym (inB code 0 7) (v := .bool (code == 0)) ?_ ?_ ?_
    · cases inB code 0 7 <;> rfl
    · intro hb wx hSx
      have hcx := HK.out wx hSx
      simp only [hb, if_true]
      go_simp
      try (first | with_reducible rfl | exact ⟨rfl, hSx⟩ | (refine (in_walk _ _ _ _).mono ?_; rintro e w1 ⟨rfl, rfl⟩; exact ⟨rfl, hSx⟩))
    (try simp only [Act.put, List.setIfInBounds_toArray, List.set_cons_zero, List.set_cons_succ])
    refine calmRow_sym (inB code 0 7) (v := .bool (code == 0)) ?_ ?_ ?_
    · cases inB code 0 7 <;> rfl
    · intro hb wx hSx
      have hcx := HK.out wx hSx
      simp only [hb, if_true]
      go_simp
      try (first | with_reducible rfl | exact ⟨rfl, hSx⟩ | (refine (in_walk _ _ _ _).mono ?_; rintro e w1 ⟨rfl, rfl⟩; exact ⟨rfl, hSx⟩))
    (try simp only [Act.put, List.setIfInBounds_toArray, List.set_cons_zero, List.set_cons_succ])
    refine calmRow_sym (inB code 0 7 && !(code == 0)) (v := .pointer (some ⟨b + 1, 1, none⟩)) ?_ ?_ ?_
    · cases inB code 0 7 <;> cases code == 0 <;> rfl
    · intro hb wx hSx
      have hcx := HK.out wx hSx
      simp only [Bool.and_eq_true, Bool.not_eq_true'] at hb
      simp only [hb.1, hb.2, if_true]
      go_simp
      try (first | with_reducible rfl | exact ⟨rfl, hSx⟩)
    (try simp only [Act.put, List.setIfInBounds_toArray, List.set_cons_zero, List.set_cons_succ])
    refine calmRow_sym (inB code 0 7 && !(code == 0)) (v := .int .u64 bits) ?_ ?_ ?_
    · cases inB code 0 7 <;> cases code == 0 <;> rfl
    · intro hb wx hSx
      have hcx := HK.out wx hSx
      simp only [Bool.and_eq_true, Bool.not_eq_true'] at hb
      simp only [hb.1, hb.2, if_true]
      go_simp
      try (first | with_reducible rfl | exact ⟨rfl, hSx⟩)
    (try simp only [Act.put, List.setIfInBounds_toArray, List.set_cons_zero, List.set_cons_succ])
    refine calmRow_sym (inB code 0 7 && !(code == 0)) (v := .bool (bits == 0)) ?_ ?_ ?_
    · cases inB code 0 7 <;> cases code == 0 <;> rfl
    · intro hb wx hSx
      have hcx := HK.out wx hSx
      simp only [Bool.and_eq_true, Bool.not_eq_true'] at hb
      simp only [hb.1, hb.2, if_true]
      go_simp
      try (first | with_reducible rfl | exact ⟨rfl, hSx⟩)
    (try simp only [Act.put, List.setIfInBounds_toArray, List.set_cons_zero, List.set_cons_succ])
    refine calmRow_sym (inB code 0 7) (v := .bool ((code == 0) || (bits == 0))) ?_ ?_ ?_
    · cases inB code 0 7 <;> rfl
    · intro hb wx hSx
      simp only [hb, Bool.true_and, if_true]
      cases code == 0 <;> (simp only [Bool.not_true, Bool.not_false, if_true, Bool.false_eq_true, if_false]; go_simp; try (first | with_reducible rfl | exact ⟨rfl, hSx⟩))
    (try simp only [Act.put, List.setIfInBounds_toArray, List.set_cons_zero, List.set_cons_succ])
    refine calmRow_pick (.bool ((inB code 0 7) && ((code == 0) || (bits == 0)))) ?_ ?_ ?_
    · rfl
    · intro wx hSx
      cases inB code 0 7 <;> (simp only [Bool.true_and, Bool.false_and, if_true, Bool.false_eq_true, if_false]; go_simp; try (first | with_reducible rfl | exact ⟨rfl, hSx⟩))
    (try simp only [Act.put, List.setIfInBounds_toArray, List.set_cons_zero, List.set_cons_succ])
    repeat (first | (refine calmRow_free (v := ?_) rfl ?_ ?_; rotate_left; (focus (intro wx hSx; (try dsimp only at hSx); have hcx := HK.out wx hSx; go_simp; (first | with_reducible rfl | exact ⟨rfl, hSx⟩ | (refine (in_walk _ _ _ _).mono ?_; rintro e w1 ⟨rfl, rfl⟩; refine ⟨?_, hSx⟩; with_reducible rfl) | (refine (right_walk _ _ _ _).mono ?_; rintro e w1 ⟨rfl, rfl⟩; refine ⟨?_, hSx⟩; with_reducible rfl) | (refine (check1_walk _ b kind _ hcx.1).mono ?_; rintro e w1 ⟨rfl, rfl⟩; refine ⟨?_, hSx⟩; with_reducible rfl) | (refine (texts_walk _ ta tc texts (HT.out.fr0 hSx)).mono ?_; rintro e w1 ⟨rfl, rfl⟩; refine ⟨?_, hSx⟩; with_reducible rfl)))); (try simp only [Act.put, List.setIfInBounds_toArray, List.set_cons_zero, List.set_cons_succ])) | (refine calmRow_skip ?_ ?_; (focus (go_simp; (try (intro hx; cases hx)); done)); (try simp only [Act.put, List.setIfInBounds_toArray, List.set_cons_zero, List.set_cons_succ])) | (refine calmRow_take (v := ?_) ?_ ?_ ?_; rotate_left; (focus (go_simp; done)); (focus (intro wx hSx; (try dsimp only at hSx); have hcx := HK.out wx hSx; go_simp; (first | with_reducible rfl | exact ⟨rfl, hSx⟩ | (refine (in_walk _ _ _ _).mono ?_; rintro e w1 ⟨rfl, rfl⟩; refine ⟨?_, hSx⟩; with_reducible rfl) | (refine (right_walk _ _ _ _).mono ?_; rintro e w1 ⟨rfl, rfl⟩; refine ⟨?_, hSx⟩; with_reducible rfl) | (refine (check1_walk _ b kind _ hcx.1).mono ?_; rintro e w1 ⟨rfl, rfl⟩; refine ⟨?_, hSx⟩; with_reducible rfl) | (refine (texts_walk _ ta tc texts (HT.out.fr0 hSx)).mono ?_; rintro e w1 ⟨rfl, rfl⟩; refine ⟨?_, hSx⟩; with_reducible rfl)))); (try simp only [Act.put, List.setIfInBounds_toArray, List.set_cons_zero, List.set_cons_succ])))
    rcases hr7 : rgt (hasL kind 114) ((code == 0) && (bits == 0)) ((inB code 0 7) && ((code == 0) || (bits == 0))) with _ | _
    ·
      repeat (first | (refine calmRow_free (v := ?_) rfl ?_ ?_; rotate_left; (focus (intro wx hSx; (try dsimp only at hSx); have hcx := HK.out wx hSx; go_simp; (first | with_reducible rfl | exact ⟨rfl, hSx⟩ | (refine (in_walk _ _ _ _).mono ?_; rintro e w1 ⟨rfl, rfl⟩; refine ⟨?_, hSx⟩; with_reducible rfl) | (refine (right_walk _ _ _ _).mono ?_; rintro e w1 ⟨rfl, rfl⟩; refine ⟨?_, hSx⟩; with_reducible rfl) | (refine (check1_walk _ b kind _ hcx.1).mono ?_; rintro e w1 ⟨rfl, rfl⟩; refine ⟨?_, hSx⟩; with_reducible rfl) | (refine (texts_walk _ ta tc texts (HT.out.fr0 hSx)).mono ?_; rintro e w1 ⟨rfl, rfl⟩; refine ⟨?_, hSx⟩; with_reducible rfl)))); (try simp only [Act.put, List.setIfInBounds_toArray, List.set_cons_zero, List.set_cons_succ])) | (refine calmRow_skip ?_ ?_; (focus (go_simp; (try (intro hx; cases hx)); done)); (try simp only [Act.put, List.setIfInBounds_toArray, List.set_cons_zero, List.set_cons_succ])) | (refine calmRow_take (v := ?_) ?_ ?_ ?_; rotate_left; (focus (go_simp; done)); (focus (intro wx hSx; (try dsimp only at hSx); have hcx := HK.out wx hSx; go_simp; (first | with_reducible rfl | exact ⟨rfl, hSx⟩ | (refine (in_walk _ _ _ _).mono ?_; rintro e w1 ⟨rfl, rfl⟩; refine ⟨?_, hSx⟩; with_reducible rfl) | (refine (right_walk _ _ _ _).mono ?_; rintro e w1 ⟨rfl, rfl⟩; refine ⟨?_, hSx⟩; with_reducible rfl) | (refine (check1_walk _ b kind _ hcx.1).mono ?_; rintro e w1 ⟨rfl, rfl⟩; refine ⟨?_, hSx⟩; with_reducible rfl) | (refine (texts_walk _ ta tc texts (HT.out.fr0 hSx)).mono ?_; rintro e w1 ⟨rfl, rfl⟩; refine ⟨?_, hSx⟩; with_reducible rfl)))); (try simp only [Act.put, List.setIfInBounds_toArray, List.set_cons_zero, List.set_cons_succ])))
      refine calmRow_nil ?_
      intro wn hFx
      try dsimp only at hFx
      go_wp2_with fail
      all_goals
        go_ret
        refine ⟨?_, hF0.out.trans hFx⟩
        have hz : Z = 81 := by
          rw [← hZ.out, CV.check, if_pos hi]
          simp only [CV.r1, CV.r2, CV.r3, CV.r4, CV.r5, CV.r6, CV.r7, CV.noRes, hr1, hr2, hr3, hr4, hr5, hr6, hr7, Bool.true_and, Bool.false_and, Bool.and_true, Bool.and_false, Bool.false_eq_true, if_false]
        rw [hz]; rfl
    repeat (first | (refine calmRow_free (v := ?_) rfl ?_ ?_; rotate_left; (focus (intro wx hSx; (try dsimp only at hSx); have hcx := HK.out wx hSx; go_simp; (first | with_reducible rfl | exact ⟨rfl, hSx⟩ | (refine (in_walk _ _ _ _).mono ?_; rintro e w1 ⟨rfl, rfl⟩; refine ⟨?_, hSx⟩; with_reducible rfl) | (refine (right_walk _ _ _ _).mono ?_; rintro e w1 ⟨rfl, rfl⟩; refine ⟨?_, hSx⟩; with_reducible rfl) | (refine (check1_walk _ b kind _ hcx.1).mono ?_; rintro e w1 ⟨rfl, rfl⟩; refine ⟨?_, hSx⟩; with_reducible rfl) | (refine (texts_walk _ ta tc texts (HT.out.fr0 hSx)).mono ?_; rintro e w1 ⟨rfl, rfl⟩; refine ⟨?_, hSx⟩; with_reducible rfl)))); (try simp only [Act.put, List.setIfInBounds_toArray, List.set_cons_zero, List.set_cons_succ])) | (refine calmRow_skip ?_ ?_; (focus (go_simp; (try (intro hx; cases hx)); done)); (try simp only [Act.put, List.setIfInBounds_toArray, List.set_cons_zero, List.set_cons_succ])) | (refine calmRow_take (v := ?_) ?_ ?_ ?_; rotate_left; (focus (go_simp; done)); (focus (intro wx hSx; (try dsimp only at hSx); have hcx := HK.out wx hSx; go_simp; (first | with_reducible rfl | exact ⟨rfl, hSx⟩ | (refine (in_walk _ _ _ _).mono ?_; rintro e w1 ⟨rfl, rfl⟩; refine ⟨?_, hSx⟩; with_reducible rfl) | (refine (right_walk _ _ _ _).mono ?_; rintro e w1 ⟨rfl, rfl⟩; refine ⟨?_, hSx⟩; with_reducible rfl) | (refine (check1_walk _ b kind _ hcx.1).mono ?_; rintro e w1 ⟨rfl, rfl⟩; refine ⟨?_, hSx⟩; with_reducible rfl) | (refine (texts_walk _ ta tc texts (HT.out.fr0 hSx)).mono ?_; rintro e w1 ⟨rfl, rfl⟩; refine ⟨?_, hSx⟩; with_reducible rfl)))); (try simp only [Act.put, List.setIfInBounds_toArray, List.set_cons_zero, List.set_cons_succ])))
    refine calmRow_nil ?_
    intro wn hFx
    try dsimp only at hFx
    go_wp2_with fail
    all_goals
      go_ret
      refine ⟨?_, hF0.out.trans hFx⟩
      have hz : Z = 0 := by
        rw [← hZ.out, CV.check, if_pos hi]
        simp only [CV.r1, CV.r2, CV.r3, CV.r4, CV.r5, CV.r6, CV.r7, CV.noRes, hr1, hr2, hr3, hr4, hr5, hr6, hr7, Bool.and_true, if_true]
      rw [hz]; rfl

end Go.Proofs.YtmgnekjhlfghaaaGreat
