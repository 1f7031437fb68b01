/-
  New, Load, Read, Arm, Revive, Copy of the document's disk, over a world that holds things.
-/
import Derived.Test.YtkkahkgjedgjnaaRefS
import Derived.Deep.RegionLaw
namespace Go.Proofs.Ytkkahkgjedgjnaa
open Go.RowKit
set_option linter.unusedVariables false
set_option linter.unusedSimpArgs false

theorem st_ref_noughts (w : World) : Calls Try.prog 51 #[] w fun e w' => e = .returned (.string zeroSec) ∧ Fr [] w w' := by
  obtain ⟨i0, hi, hz0, hz1, hz2⟩ := info_parts info_u8
  have HI := hid (And.intro hi (And.intro hz0 (And.intro hz1 hz2)))
  clear hi hz0 hz1 hz2
  go_enter Try.func51, Try.ntmps51
  go_wp2_with (at_make; refine wpList_make_full _ rfl (.const (.int .i64 128)) (.const (.int .i64 128)) 89 rfl 0 5 i0 (.int .u8 0) 1 Try.underlying89 HI.out.1 HI.out.2.1 HI.out.2.2.1 .i64 .i64 128 128 128 rfl rfl rfl rfl ?qa ?qb ?qc ?_)
  case qa => rw [HI.out.2.2.2]; omega
  case qb => decide
  case qc => omega
  intro w2 hown hgrow
  have hF2 : Fr [] w w2 := (Fr.of_grown hgrow).mono (by simp)
  have hcell : ∀ j, j < 128 → w2.cell? ⟨w.heap.size, 0 + j, none⟩ = some (.int .u8 (sget zeroSec j)) := by
    intro j hj
    rw [Nat.zero_add, hown.cellAt j (by omega), zero_at, Array.getElem?_toList]
    exact made_u8 _ _ (by omega)
  have HZ := hid (And.intro hF2 hcell)
  clear hF2 hcell hown hgrow
  go_wp2_with (refine wpList_text rfl 89 9 (.tmp 1) rfl 5 Try.underlying89 Try.underlying5 Try.underlying9 w.heap.size 0 128 128 zeroSec rfl zeroSec_size HZ.out.2 ?_)
  go_ret
  exact ⟨rfl, HZ.out.1⟩

def NewInv (w wr : World) (X k : Nat) : Prop := ∃ v, wr.heap[X]? = some (.cells #[v, .slice none 0 0, .int .i64 0, .int .i64 0, .bool false] 88 (0, 0)) ∧ wr.ownsRow 0 9 1 v k (strs (List.replicate k zeroSec) k) ∧ (∀ x, x ∈ v.ownBlock.toList → w.heap.size ≤ x ∧ x ≠ X) ∧ Fr [] w wr

theorem strs_zero (k : Nat) : strs (List.replicate k zeroSec) k ++ [.string zeroSec] = strs (List.replicate (k + 1) zeroSec) (k + 1) := by
  have h : ∀ n, strs (List.replicate n zeroSec) n = List.replicate n (.string zeroSec) := fun n => by
    refine List.ext_getElem? fun j => ?_
    rcases Nat.lt_or_ge j n with h | h
    · rw [strs_get _ _ _ h]; simp [strV, sAt, List.getD, h]
    · rw [List.getElem?_eq_none (by rw [strs_len]; exact h), List.getElem?_eq_none (by simpa using h)]
  rw [h, h, List.replicate_succ']

set_option maxHeartbeats 1600000 in
set_option maxRecDepth 100000 in
theorem ref_new_ok (w : World) (n : Nat) (h1 : 1 ≤ n) (h2 : n ≤ 1026) :
    Calls Try.prog 33 #[.int .i64 n] w fun e w' => ∃ X, e = .returned (.tuple #[.pointer (some ⟨X, 0, none⟩), .int .i64 0]) ∧ w.heap.size ≤ X ∧ NewInv w w' X n := by
  obtain ⟨i0, hi, hz0, hz1, hz2⟩ := info_parts info_string
  have HI := hid (And.intro hi (And.intro hz0 (And.intro hz1 hz2)))
  clear hi hz0 hz1 hz2
  go_enter Try.func33, Try.ntmps33
  go_wp2_with fail
  go_loopw [5] (fun i wr => ∃ k : Nat, k ≤ n ∧ i = .int .i64 k ∧ NewInv w wr w.heap.size k) (fun i _ => n - (intOf i).toNat)
  case atStart => exact ⟨0, Nat.zero_le _, rfl, .slice none 0 0, blk_alloc_at _ _ _ rfl, World.ownsRow_nil _ _ _ _, by simp [Value.ownBlock], (Fr.refl _ _).alloc _⟩
  case round =>
    obtain ⟨k, hk, rfl, hinv⟩ := hrel
    have HV := hid hinv
    clear hinv
    by_cases hlt : k < n
    · obtain ⟨v, g1, g2, g3, g4⟩ := HV.out
      have c0 := cell_blk (i := 0) g1 rfl
      have HG := hid (And.intro g1 (And.intro g2 (And.intro g3 g4)))
      clear HV g1 g2 g3 g4
      go_wp2_with fail
      go_region_law (first
        | (go_simp; go_at_call 51; refine (st_ref_noughts _).mono ?_; rintro e w1 ⟨rfl, hF1⟩; have e0 := hF1.cell0 (w := wr.drew) c0; have hl1 := lt_of_block (hF1.keep (w := wr.drew) HG.out.1 (by simp)); have HF1 := hid hF1; clear hF1)
        | (refine step_append_blk rfl (.tmp 23) (.tmp 25) 46 rfl 9 i0 (.string ByteArray.empty) 1 16 Try.underlying46 HI.out.1 HI.out.2.1 HI.out.2.2.1 HI.out.2.2.2 rfl (by decide) v k _ rfl (owns_keep (S := []) (owns_keep (S := []) HG.out.2.1 ((Fr.refl [] wr).drew.trans HF1.out) (by simp)) ((Fr.refl [] w1).alloc _) (by simp)) ⟨w1.heap.size, 0, none⟩ 1 1 [.string zeroSec] rfl rfl (news_alloc w1 [.string zeroSec] _) (by intro u hu; simp at hu; subst hu; rfl) (by unfold maxLen; omega) (by omega) ?_; intro v' w3 ho3 hF3 hb3 hn3; rw [strs_zero] at ho3; obtain ⟨g', cap', rfl⟩ := owns_shape ho3 (by omega); have hX1 := HF1.out.keep (w := wr.drew) HG.out.1 (by simp); have hX3 := hF3.keep (blk_alloc_lt _ hX1) (fun h => ((HG.out.2.2.1 _ h).2 rfl)); have e3 := cell_blk (i := 0) hX3 rfl; have j3 := free_blk (i := 0) hX3; have HZ := hid (And.intro hX3 (And.intro ho3 (And.intro hF3 hb3))); have hl3 := lt_of_block hX3; clear hX1 hX3 ho3 hF3 hb3 hn3))
      all_goals go_wp2_with fail
      all_goals
        obtain ⟨z1, z2, z3, z4⟩ := HZ.out
        obtain ⟨y1, y2, y3, y4⟩ := HG.out
        have hs1 := HF1.out.size
        have hsw : wr.drew.heap.size = wr.heap.size := rfl
        have hXr := lt_of_block y1
        have hg : w.heap.size < g' := by
          rcases z4 g' (by simp [Value.ownBlock]) with h | h
          · have := y3 g' h; omega
          · simp at h; omega
        have hF : Fr [] w w3 := ((y4.drew.trans HF1.out).alloc (.cells #[.string zeroSec] 9)).step z3 (fun x hx => .inr (y3 x hx).1)
        exact ⟨⟨k + 1, by omega, by go_num, .slice (some ⟨g', 0, none⟩) (k + 1) cap', by rw [blk_setCell_at _ z1]; simp, owns_keep (S := [w.heap.size]) z2 ((Fr.refl _ w3).setCell (.inl (by simp)) _) (by intro q hq; simp [Value.ownBlock] at hq; subst hq; simp; omega), by simp [Value.ownBlock]; omega, hF.setCell (.inr (Nat.le_refl _)) _⟩, by simp [intOf]; omega⟩
    · obtain rfl : k = n := by omega
      go_wp2_with fail
      go_ret2
      exact ⟨_, rfl, Nat.le_refl _, HV.out⟩

section
variable {W : Base} {w : World} {R : List Thing}

theorem st_ref_new (H : St W w R) (n : Nat) (h1 : 1 ≤ n) (h2 : n ≤ 1026) :
    Calls Try.prog 33 #[.int .i64 n] w fun e w' => ∃ X, e = .returned (.tuple #[.pointer (some ⟨X, 0, none⟩), .int .i64 0]) ∧ St W w' (R ++ [XkT X (DS.new n)]) := by
  refine (ref_new_ok w n h1 h2).mono ?_
  rintro e w' ⟨X, rfl, hX, v, g1, g2, g3, g4⟩
  refine ⟨X, rfl, H.newOf (F := [X]) (G := v.ownBlock.toList ++ (Value.slice none 0 0).ownBlock.toList) g4 inferInstance ⟨v, .slice none 0 0, rfl, rfl, g1, ?_, World.ownsRow_nil _ _ _ _⟩ (by simpa using hX) (fun x hx => .inl ?_) (fun x hx hg => ?_)⟩
  · simpa [DS.new] using g2
  · simp only [Value.ownBlock, Option.toList, List.append_nil] at hx; exact (g3 x hx).1
  · simp only [List.mem_singleton] at hx
    simp only [Value.ownBlock, Option.toList, List.append_nil] at hg
    exact (g3 x hg).2 hx

theorem st_ref_load (H : St W w R) {a : Option Addr} {cap : Nat} {ss : List ByteArray} (h : In w 1 a ss.length cap (strV ss)) (hok : okSecs ss) :
    Calls Try.prog 27 #[.slice a ss.length cap] w fun e w' => ∃ X, e = .returned (.tuple #[.pointer (some ⟨X, 0, none⟩), .int .i64 0]) ∧ St W w' (R ++ [XkT X (DS.of ss)]) := by
  refine (ref_load_ok w a cap ss h hok).mono ?_
  rintro e w' ⟨X, F, rfl, hF, ⟨sv, rv, rfl, g1, g2, g3⟩, hb⟩
  refine ⟨X, rfl, H.newOf (F := [X]) (G := sv.ownBlock.toList ++ rv.ownBlock.toList) hF inferInstance ⟨sv, rv, rfl, rfl, g1, g2, g3⟩ (fun x hx => hb x (by simp at hx; subst hx; simp)) (fun x hx => .inl (hb x (List.mem_cons_of_mem _ hx))) (fun x hx hg => ?_)⟩
  simp only [List.mem_singleton] at hx
  subst hx
  rcases List.mem_append.1 hg with h | h
  · exact owns_ne g2 g1 (by decide) h
  · exact owns_ne g3 g1 (by decide) h

theorem st_ref_revive (H : St W w R) (i : Nat) {X : Nat} {d : DS} (hi : R[i]? = some (XkT X d)) :
    Calls Try.prog 68 #[.pointer (some ⟨X, 0, none⟩)] w fun e w' => e = .returned (.tuple #[]) ∧ St W w' (R.set i (XkT X d.revive)) := by
  obtain ⟨F, G, ⟨sv, rv, hF, hG, hX, hS, hR⟩, hFW, hd, hback⟩ := H.atG i hi
  subst hF hG
  have c4 : w.cell? ⟨X, 4, none⟩ = some (.bool d.dead) := cell_blk hX rfl
  have f4 : w.frozen? ⟨X, 4, none⟩ = false := free_blk hX
  have c2 : w.cell? ⟨X, 2, none⟩ = some (.int .i64 d.armed) := cell_blk hX rfl
  have f2 : w.frozen? ⟨X, 2, none⟩ = false := free_blk hX
  have HB := hid (And.intro hX (And.intro hS (And.intro hR (And.intro hback (hd X (by simp))))))
  clear hX hS hR hback hd hFW H hi
  go_enter Try.func68, Try.ntmps68
  go_wp2
  go_end0
  obtain ⟨b1, b2, b3, hback, hdX⟩ := HB.out
  have hF : Fr [X] w ((w.setCell ⟨X, 4, none⟩ (.bool false)).setCell ⟨X, 2, none⟩ (.int .i64 0)) := ((Fr.refl _ _).setCell (.inl (by simp)) _).setCell (.inl (by simp)) _
  refine ⟨rfl, hback _ [X] _ _ inferInstance ⟨sv, rv, rfl, rfl, blk_setCell_at _ (blk_setCell_at _ b1), owns_keep b2 hF ?_, owns_keep b3 hF ?_⟩ hF (fun x hx => .inl hx) (fun x hx => .inr (.inl hx)) ?_⟩
  · intro q hq h; simp at h; subst h; exact hdX (List.mem_append.2 (.inl hq))
  · intro q hq h; simp at h; subst h; exact hdX (List.mem_append.2 (.inr hq))
  · intro x hx; simp at hx; subst hx; exact hdX

/-- Its list of raw writes is forgotten. -/
theorem st_ref_forget (H : St W w R) (i : Nat) {X : Nat} {d : DS} (hi : R[i]? = some (XkT X d)) : St W (w.setCell ⟨X, 1, none⟩ (.slice none 0 0)) (R.set i (XkT X d.forget)) := by
  obtain ⟨F, G, ⟨sv, rv, hF, hG, hX, hS, hR⟩, hFW, hd, hback⟩ := H.atG i hi
  subst hF hG
  have hdX := hd X (by simp)
  have hF : Fr [X] w (w.setCell ⟨X, 1, none⟩ (.slice none 0 0)) := (Fr.refl _ _).setCell (.inl (by simp)) _
  refine hback _ [X] (sv.ownBlock.toList ++ (Value.slice none 0 0).ownBlock.toList) _ inferInstance ⟨sv, .slice none 0 0, rfl, rfl, blk_setCell_at _ hX, owns_keep hS hF ?_, World.ownsRow_nil _ _ _ _⟩ hF (fun x hx => .inl hx) (fun x hx => .inr (.inl ?_)) (fun x hx hg => ?_)
  · intro q hq h; simp at h; subst h; exact hdX (List.mem_append.2 (.inl hq))
  · simp only [Value.ownBlock, Option.toList, List.append_nil] at hx; exact List.mem_append.2 (.inl hx)
  · simp only [Value.ownBlock, Option.toList, List.append_nil] at hg
    simp at hx; subst hx; exact hdX (List.mem_append.2 (.inl hg))

theorem st_ref_copy (H : St W w R) (i : Nat) {X : Nat} {d : DS} (hi : R[i]? = some (XkT X d)) :
    Calls Try.prog 55 #[.pointer (some ⟨X, 0, none⟩)] w fun e w' => ∃ Y, e = .returned (.pointer (some ⟨Y, 0, none⟩)) ∧ St W w' (R ++ [XkT Y d]) := by
  obtain ⟨F, G, ⟨sv, rv, hF, hG, hX, hS, hR⟩, hFW, hd, hback⟩ := H.atG i hi
  subst hF hG
  have c0 : w.cell? ⟨X, 0, none⟩ = some sv := cell_blk hX rfl
  have c1 : w.cell? ⟨X, 1, none⟩ = some rv := cell_blk hX rfl
  have c2 : w.cell? ⟨X, 2, none⟩ = some (.int .i64 d.armed) := cell_blk hX rfl
  have c3 : w.cell? ⟨X, 3, none⟩ = some (.int .i64 d.bytes) := cell_blk hX rfl
  have c4 : w.cell? ⟨X, 4, none⟩ = some (.bool d.dead) := cell_blk hX rfl
  obtain ⟨a1, n1, e1⟩ : ∃ a n, sv = .slice a d.sec.length n := by
    rcases owns_one hS with ⟨h, h0, _⟩ | ⟨g, cap, h, _⟩
    · exact ⟨none, 0, by rw [h, h0]⟩
    · exact ⟨_, _, h⟩
  obtain ⟨a2, n2, e2⟩ : ∃ a n, rv = .slice a d.raw.length n := by
    rcases owns_one hR with ⟨h, h0, _⟩ | ⟨g, cap, h, _⟩
    · exact ⟨none, 0, by rw [h, h0]⟩
    · exact ⟨_, _, h⟩
  subst e1 e2
  have HB := hid (And.intro hX (And.intro hS (And.intro hR H)))
  clear hX hS hR hback hd hFW H
  go_enter Try.func55, Try.ntmps55
  go_wp2
  go_ret
  obtain ⟨b1, b2, b3, H⟩ := HB.out
  refine ⟨_, rfl, H.newOf (F := [w.heap.size]) (G := (Value.slice a1 d.sec.length n1).ownBlock.toList ++ (Value.slice a2 d.raw.length n2).ownBlock.toList) ((Fr.refl _ _).alloc _) inferInstance ⟨_, _, rfl, rfl, blk_alloc_at _ _ _ rfl, owns_keep (S := []) b2 ((Fr.refl [] _).alloc _) (by simp), owns_keep (S := []) b3 ((Fr.refl [] _).alloc _) (by simp)⟩ (by simp) (fun x hx => .inr (.inr ⟨i, _, hi, ?_⟩)) ?_⟩
  · rintro F' G' ⟨sv', rv', rfl, rfl, hX', _, _⟩
    rw [b1] at hX'
    simp at hX'
    rw [← hX'.1, ← hX'.2]
    exact hx
  · intro x hx hg
    simp at hx; subst hx
    rcases List.mem_append.1 hg with h | h
    · exact absurd (owns_lt b2 _ h) (Nat.lt_irrefl _)
    · exact absurd (owns_lt b3 _ h) (Nat.lt_irrefl _)
end

end Go.Proofs.Ytkkahkgjedgjnaa
