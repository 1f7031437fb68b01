/-
  Merged, in build order: Wh Pack Wi.
-/
import Derived.Deep.CutRange
import Derived.Deep.CutBlock
import Derived.Test.YtkiccbjngokpjaaGreatM13
import Derived.Test.YtkiccbjngokpjaaGreatM14
import Derived.Test.YtkiccbjngokpjaaGreatM3
/-
  wire: fields.
-/
namespace Go.Proofs.YtkiccbjngokpjaaGreat
open Go.RowKit
set_option linter.unusedVariables false
set_option linter.unusedSimpArgs false

section
variable {W : Base} {w : World} {R : List Thing}
theorem St.blk3 {T rest : List Thing} {b : Nat} {u0 u1 u2 : Value} {t : TypeId} (v0 v1 v2 : Value) (H : St W w (T ++ (BlkT b (.cells #[u0, u1, u2] t) :: rest))) :
    St W (((w.setCell ⟨b, 0, none⟩ v0).setCell ⟨b, 1, none⟩ v1).setCell ⟨b, 2, none⟩ v2) (T ++ (BlkT b (.cells #[v0, v1, v2] t) :: rest)) := by
  have e : ∀ A B : Thing, (T ++ (A :: rest)).set T.length B = T ++ (B :: rest) := fun A B => by simp
  have g : ∀ A : Thing, (T ++ (A :: rest))[T.length]? = some A := fun A => by simp
  have h1 := H.setBlk T.length (g _) 0 v0
  simp only [e, List.setIfInBounds_toArray, List.set_cons_zero, List.set_cons_succ] at h1
  have h2 := h1.setBlk T.length (g _) 1 v1
  simp only [e, List.setIfInBounds_toArray, List.set_cons_zero, List.set_cons_succ] at h2
  have h3 := h2.setBlk T.length (g _) 2 v2
  simp only [e, List.setIfInBounds_toArray, List.set_cons_zero, List.set_cons_succ] at h3
  exact h3
/-- A thing out of the middle is let go. -/
theorem St.skip {T rest : List Thing} {A : Thing} (H : St W w (T ++ (A :: rest))) : St W w (T ++ rest) := by
  refine H.pick ((List.range T.length) ++ (List.range rest.length).map (fun k => T.length + 1 + k)) ?_ (by simp) fun k i hk => ?_
  · rw [List.nodup_append]
    refine ⟨List.nodup_range, ?_, fun a ha b hb => ?_⟩
    · unfold List.Nodup
      rw [List.pairwise_map]
      exact (List.nodup_range (n := rest.length)).imp (fun h e => h (by omega))
    · simp at ha hb
      obtain ⟨k, hk, rfl⟩ := hb
      omega
  · by_cases h : k < T.length
    · rw [List.getElem?_append_left (by simpa using h), List.getElem?_range h] at hk
      cases hk
      rw [List.getElem?_append_left h, List.getElem?_append_left h]
    · rw [List.getElem?_append_right (by simpa using h)] at hk
      simp only [List.length_range, List.getElem?_map] at hk
      obtain ⟨j, hj, rfl⟩ := Option.map_eq_some_iff.1 hk
      have hj2 := (List.getElem?_eq_some_iff.1 hj).1
      simp only [List.length_range] at hj2
      rw [List.getElem?_range hj2] at hj
      cases hj
      rw [List.getElem?_append_right (by omega), List.getElem?_append_right (by omega)]
      rw [show T.length + 1 + (k - T.length) - T.length = (k - T.length) + 1 by omega, List.getElem?_cons_succ]
abbrev fzO : Obj := .cells #[.nilFunc, .nilFunc, .nilFunc] 107
abbrev fdO (b : Nat) (f : Fd) : Obj := .cells (Fd.v b f).toArray 107
theorem st_index (H : St W w R) (u : Int) : Calls Tryz.prog 57 #[.int .i64 u] w fun e w' => ∃ b, e = .returned (.agg (Fd.v b (fI u)).toArray) ∧ St W w' (R ++ [FdT b (fI u)]) := by
  have hsf := run_store_func
  have HN := hid (st_whole (H.alloc fzO) 5 0 u)
  clear H
  have e5 : selF 5 = 58 := rfl
  rw [e5] at HN
  go_enter Tryz.func57, Tryz.ntmps57
  go_wp2_with (go_at_call 52; refine HN.out.mono ?_; rintro e w1 ⟨rfl, H1⟩; dsimp only [Fd.v]; rw [List.append_assoc] at H1; have hB := H1.blk _ (get_behind R _ 0); have y0 := cell_blk (i := 0) hB rfl; have y1 := cell_blk (i := 1) hB rfl; have y2 := cell_blk (i := 2) hB rfl; have z0 := free_blk (i := 0) hB; have z1 := free_blk (i := 1) hB; have z2 := free_blk (i := 2) hB; have H1 := hid H1; clear hB)
  go_wp2_with fail
  have H2 := H1.out.blk3 (T := R) (rest := [FdT (w.alloc fzO).heap.size (fI u)]) (.func (.func 87) #[] #[ptr (w.alloc fzO).heap.size, ptr ((w.alloc fzO).heap.size + 1), ptr ((w.alloc fzO).heap.size + 2)]) (.func (.func 88) #[] #[ptr (w.alloc fzO).heap.size]) (.func (.func 89) #[] #[ptr (w.alloc fzO).heap.size])
  have hb := H2.blk _ (get_behind R _ 0)
  have x0 := cell_blk (i := 0) hb rfl
  have x1 := cell_blk (i := 1) hb rfl
  have x2 := cell_blk (i := 2) hb rfl
  have e6 : (w.alloc fzO).heap.size = w.heap.size + 1 := by simp
  rw [e6] at x0 x1 x2 H2
  refine bodyPost_ret (v := .agg (Fd.v (w.heap.size + 1) (fI u)).toArray) ?_ rfl ⟨_, rfl, H2.skip⟩
  dsimp only [Fd.v]
  simp [results, Tryz.results57, go_sem, x0, x1, x2]
theorem st_count (H : St W w R) (u : Int) : Calls Tryz.prog 59 #[.int .i64 u] w fun e w' => ∃ b, e = .returned (.agg (Fd.v b (fC u)).toArray) ∧ St W w' (R ++ [FdT b (fC u)]) := by
  have hsf := run_store_func
  have HN := hid (st_whole (H.alloc fzO) 6 0 u)
  clear H
  have e5 : selF 6 = 60 := rfl
  rw [e5] at HN
  go_enter Tryz.func59, Tryz.ntmps59
  go_wp2_with (go_at_call 52; refine HN.out.mono ?_; rintro e w1 ⟨rfl, H1⟩; dsimp only [Fd.v]; rw [List.append_assoc] at H1; have hB := H1.blk _ (get_behind R _ 0); have y0 := cell_blk (i := 0) hB rfl; have y1 := cell_blk (i := 1) hB rfl; have y2 := cell_blk (i := 2) hB rfl; have z0 := free_blk (i := 0) hB; have z1 := free_blk (i := 1) hB; have z2 := free_blk (i := 2) hB; have H1 := hid H1; clear hB)
  go_wp2_with fail
  have H2 := H1.out.blk3 (T := R) (rest := [FdT (w.alloc fzO).heap.size (fC u)]) (.func (.func 87) #[] #[ptr (w.alloc fzO).heap.size, ptr ((w.alloc fzO).heap.size + 1), ptr ((w.alloc fzO).heap.size + 2)]) (.func (.func 88) #[] #[ptr (w.alloc fzO).heap.size]) (.func (.func 89) #[] #[ptr (w.alloc fzO).heap.size])
  have hb := H2.blk _ (get_behind R _ 0)
  have x0 := cell_blk (i := 0) hb rfl
  have x1 := cell_blk (i := 1) hb rfl
  have x2 := cell_blk (i := 2) hb rfl
  have e6 : (w.alloc fzO).heap.size = w.heap.size + 1 := by simp
  rw [e6] at x0 x1 x2 H2
  refine bodyPost_ret (v := .agg (Fd.v (w.heap.size + 1) (fC u)).toArray) ?_ rfl ⟨_, rfl, H2.skip⟩
  dsimp only [Fd.v]
  simp [results, Tryz.results59, go_sem, x0, x1, x2]
end

end Go.Proofs.YtkiccbjngokpjaaGreat

/-
  Things packed into one, and taken apart again. Of no program.
-/
namespace Go.Proofs.YtkiccbjngokpjaaGreat
open Go.RowKit
set_option linter.unusedVariables false
set_option linter.unusedSimpArgs false

/-- Several things in one. -/
def Pack1 (L : List Thing1) : Thing1 := fun w F => (∀ A, A ∈ L → Loc1 A) ∧ ∃ FF : Nat → List Nat, F = (List.range L.length).flatMap FF ∧ (∀ (k : Nat) (A : Thing1), L[k]? = some A → A w (FF k)) ∧ ∀ j k : Nat, j < L.length → k < L.length → j ≠ k → ∀ x, x ∈ FF j → x ∉ FF k
def PackT (L : List Thing1) : Thing := own (Pack1 L)
theorem Pack1.keep {L : List Thing1} {w w' : World} {F S : List Nat} (h : Pack1 L w F) (hF : Fr S w w') (hd : ∀ x, x ∈ F → x ∉ S) : Pack1 L w' F := by
  obtain ⟨h0, FF, rfl, h1, h2⟩ := h
  refine ⟨h0, FF, rfl, fun k A hA => ?_, h2⟩
  have := h0 A (List.mem_of_getElem? hA)
  exact this.keep (h1 k A hA) hF (fun x hx => hd x (List.mem_flatMap.2 ⟨k, by simpa using (List.getElem?_eq_some_iff.1 hA).1, hx⟩))
theorem Pack1.lt {L : List Thing1} {w : World} {F : List Nat} (h : Pack1 L w F) : ∀ x, x ∈ F → x < w.heap.size := by
  obtain ⟨h0, FF, rfl, h1, h2⟩ := h
  intro x hx
  obtain ⟨k, hk, hx⟩ := List.mem_flatMap.1 hx
  have hk : k < L.length := by simpa using hk
  have := h0 _ (List.getElem_mem hk)
  exact this.lt (h1 k _ (List.getElem?_eq_getElem hk)) x hx
instance (L : List Thing1) : Loc1 (Pack1 L) where
  keep := fun h hF hd => h.keep hF hd
  lt := fun h x hx => h.lt x hx

/-- Nothing at all. -/
def Nil1 : Thing1 := fun _ F => F = []
def NilT : Thing := own Nil1
instance : Loc1 Nil1 where
  keep := fun h _ _ => h
  lt := fun h x hx => by rw [h] at hx; cases hx

section
variable {W : Base} {w : World} {R : List Thing}

theorem St.unpackG (H : St W w R) (i : Nat) {B : Thing1} (hi : R[i]? = some (own B)) : ∃ F, B w F ∧ ∀ L : List Thing1, Pack1 L w F → St W w (R.set i NilT ++ L.map own) := by
  obtain ⟨h1, Fs, Gs, h2, h3, h4⟩ := H
  have hlt := lt_of_get hi
  obtain ⟨⟨hG, hB⟩, hL, hf, hg⟩ := h2 i _ hi
  refine ⟨Fs i, hB, fun L hP => ?_⟩
  obtain ⟨p0, FF, pF, p1, p2⟩ := hP
  have hmem : ∀ k, k < L.length → ∀ x, x ∈ FF k → x ∈ Fs i := fun k hk x hx => by rw [pF]; exact List.mem_flatMap.2 ⟨k, by simpa using hk, hx⟩
  refine ⟨h1, fun j => if j < R.length then (if j = i then [] else Fs j) else FF (j - R.length), fun j => if j < R.length then (if j = i then [] else Gs j) else [], fun j A hA => ?_, fun j k hj hk hjk x hx hxk => ?_, fun j k hj hk x hx hxk => ?_⟩
  · by_cases hjr : j < R.length
    · rw [List.getElem?_append_left (by simpa using hjr)] at hA
      simp only [if_pos hjr]
      by_cases hji : j = i
      · subst hji
        rw [List.getElem?_set_self hlt] at hA
        cases hA
        simp only [if_pos]
        exact ⟨⟨rfl, rfl⟩, (inferInstance : Loc (own Nil1)), by simp, by simp⟩
      · rw [List.getElem?_set_ne (fun e => hji e.symm)] at hA
        simp only [if_neg hji]
        exact h2 j A hA
    · rw [List.getElem?_append_right (by simpa using hjr)] at hA
      simp only [List.length_set, List.getElem?_map] at hA
      obtain ⟨A1, hA1, rfl⟩ := Option.map_eq_some_iff.1 hA
      simp only [if_neg hjr]
      have hk := (List.getElem?_eq_some_iff.1 hA1).1
      have hl := p0 A1 (List.mem_of_getElem? hA1)
      exact ⟨⟨rfl, p1 _ _ hA1⟩, inferInstance, fun x hx => hf x (hmem _ hk x hx), by simp⟩
  · simp only [List.length_append, List.length_set, List.length_map] at hj hk
    by_cases hjr : j < R.length
    · simp only [if_pos hjr] at hx
      by_cases hji : j = i
      · simp [hji] at hx
      · simp only [if_neg hji] at hx
        by_cases hkr : k < R.length
        · simp only [if_pos hkr] at hxk
          by_cases hki : k = i
          · simp [hki] at hxk
          · simp only [if_neg hki] at hxk
            exact h3 j k hjr hkr hjk x hx hxk
        · simp only [if_neg hkr] at hxk
          exact h3 j i hjr hlt hji x hx (hmem _ (by omega) x hxk)
    · simp only [if_neg hjr] at hx
      by_cases hkr : k < R.length
      · simp only [if_pos hkr] at hxk
        by_cases hki : k = i
        · simp [hki] at hxk
        · simp only [if_neg hki] at hxk
          exact h3 k i hkr hlt hki x hxk (hmem _ (by omega) x hx)
      · simp only [if_neg hkr] at hxk
        exact p2 _ _ (by omega) (by omega) (by omega) x hx hxk
  · simp only [List.length_append, List.length_set, List.length_map] at hj hk
    by_cases hkr : k < R.length
    · simp only [if_pos hkr] at hxk
      by_cases hki : k = i
      · simp [hki] at hxk
      · simp only [if_neg hki] at hxk
        by_cases hjr : j < R.length
        · simp only [if_pos hjr] at hx
          by_cases hji : j = i
          · simp [hji] at hx
          · simp only [if_neg hji] at hx
            exact h4 j k hjr hkr x hx hxk
        · simp only [if_neg hjr] at hx
          exact h4 i k hlt hkr x (hmem _ (by omega) x hx) hxk
    · simp [if_neg hkr] at hxk

theorem St.packG {T : List Thing} {L : List Thing1} (H : St W w (T ++ L.map own)) (i : Nat) (hi : T[i]? = some NilT) (hL : ∀ A, A ∈ L → Loc1 A) {B : Thing1} [hB : Loc1 B] (h : ∀ F, Pack1 L w F → B w F) : St W w (T.set i (own B)) := by
  obtain ⟨h1, Fs, Gs, h2, h3, h4⟩ := H
  have hlt := lt_of_get hi
  have hget : ∀ k A, L[k]? = some A → (T ++ L.map own)[T.length + k]? = some (own A) := fun k A hk => by
    rw [List.getElem?_append_right (by omega), Nat.add_sub_cancel_left, List.getElem?_map, hk]; rfl
  have hP : Pack1 L w ((List.range L.length).flatMap fun k => Fs (T.length + k)) := by
    refine ⟨hL, fun k => Fs (T.length + k), rfl, fun k A hA => ?_, fun j k hj hk hjk => ?_⟩
    · exact (h2 _ _ (hget k A hA)).1.2
    · exact h3 _ _ (by simp; omega) (by simp; omega) (by omega)
  have hmem : ∀ x, x ∈ ((List.range L.length).flatMap fun k => Fs (T.length + k)) → ∃ k, k < L.length ∧ x ∈ Fs (T.length + k) := fun x hx => by
    obtain ⟨k, hk, hx⟩ := List.mem_flatMap.1 hx
    exact ⟨k, by simpa using hk, hx⟩
  refine ⟨h1, fun j => if j = i then (List.range L.length).flatMap (fun k => Fs (T.length + k)) else Fs j, fun j => if j = i then [] else Gs j, fun j A hA => ?_, fun j k hj hk hjk x hx hxk => ?_, fun j k hj hk x hx hxk => ?_⟩
  · by_cases hji : j = i
    · subst hji
      rw [List.getElem?_set_self hlt] at hA
      cases hA
      simp only [if_pos]
      refine ⟨⟨rfl, h _ hP⟩, inferInstance, fun x hx => ?_, by simp⟩
      obtain ⟨k, hk, hx⟩ := hmem x hx
      exact (h2 _ _ (hget k _ (List.getElem?_eq_getElem hk))).2.2.1 x hx
    · rw [List.getElem?_set_ne (fun e => hji e.symm)] at hA
      simp only [if_neg hji]
      have hj := lt_of_get hA
      exact h2 j A (by rw [List.getElem?_append_left hj]; exact hA)
  · simp only [List.length_set] at hj hk
    by_cases hji : j = i
    · simp only [if_pos hji] at hx
      have hki : ¬ k = i := fun e => hjk (hji.trans e.symm)
      simp only [if_neg hki] at hxk
      obtain ⟨m, hm, hx⟩ := hmem x hx
      exact h3 _ _ (by simp; omega) (by simp; omega) (by omega) x hx hxk
    · simp only [if_neg hji] at hx
      by_cases hki : k = i
      · simp only [if_pos hki] at hxk
        obtain ⟨m, hm, hxk⟩ := hmem x hxk
        exact h3 _ _ (by simp; omega) (by simp; omega) (by omega) x hx hxk
      · simp only [if_neg hki] at hxk
        exact h3 _ _ (by simp; omega) (by simp; omega) hjk x hx hxk
  · simp only [List.length_set] at hj hk
    by_cases hki : k = i
    · simp [if_pos hki] at hxk
    · simp only [if_neg hki] at hxk
      by_cases hji : j = i
      · simp only [if_pos hji] at hx
        obtain ⟨m, hm, hx⟩ := hmem x hx
        exact h4 _ _ (by simp; omega) (by simp; omega) x hx hxk
      · simp only [if_neg hji] at hx
        exact h4 _ _ (by simp; omega) (by simp; omega) x hx hxk

/-- Behind the end: several things become one. -/
theorem St.packEnd {L : List Thing1} (H : St W w (R ++ L.map own)) (hL : ∀ A, A ∈ L → Loc1 A) {B : Thing1} [hB : Loc1 B] (h : ∀ F, Pack1 L w F → B w F) : St W w (R ++ [own B]) := by
  have h1 : St W w ((R ++ L.map own) ++ [NilT]) := H.new (A := Nil1) (F := []) (Fr.refl _ _) inferInstance rfl (by simp)
  have h2 : St W w ((R ++ [NilT]) ++ L.map own) := by
    refine h1.pick (List.range R.length ++ [(R ++ L.map own).length] ++ (List.range L.length).map (R.length + ·)) ?_ (by simp <;> omega) (fun k j hk => ?_)
    · rw [List.nodup_append, List.nodup_append]
      refine ⟨⟨List.nodup_range, by simp, fun a ha b hb => by simp at ha hb; omega⟩, List.Pairwise.map _ (fun a b hab => by simpa using hab) List.nodup_range, fun a ha b hb => ?_⟩
      simp at ha hb
      obtain ⟨c, hc, rfl⟩ := hb
      omega
    · by_cases hk1 : k < R.length
      · rw [List.append_assoc, List.getElem?_append_left (by simpa using hk1), List.getElem?_range hk1] at hk
        cases hk
        rw [List.append_assoc, List.getElem?_append_left hk1, List.append_assoc, List.getElem?_append_left hk1]
      · by_cases hk2 : k = R.length
        · subst hk2
          have e0 : (List.range R.length ++ [(R ++ L.map own).length] ++ (List.range L.length).map (R.length + ·))[R.length]? = some (R ++ L.map own).length := by
            rw [List.append_assoc, List.getElem?_append_right (by simp)]; simp
          rw [e0] at hk
          cases hk
          have e1 : ((R ++ [NilT]) ++ L.map own)[R.length]? = some NilT := by
            rw [List.getElem?_append_left (by simp), List.getElem?_append_right (Nat.le_refl _), Nat.sub_self]; rfl
          have e2 : ((R ++ L.map own) ++ [NilT])[(R ++ L.map own).length]? = some NilT := by
            rw [List.getElem?_append_right (Nat.le_refl _), Nat.sub_self]; rfl
          rw [e1, e2]
        · rw [List.getElem?_append_right (by simp; omega)] at hk
          simp only [List.length_append, List.length_range, List.length_singleton, List.getElem?_map] at hk
          obtain ⟨m, hm, rfl⟩ := Option.map_eq_some_iff.1 hk
          obtain ⟨hm1, hm2⟩ := List.getElem?_eq_some_iff.1 hm
          simp at hm1 hm2
          rw [List.getElem?_append_right (by simp; omega), List.append_assoc, List.getElem?_append_right (by omega), Nat.add_sub_cancel_left, List.getElem?_append_left (by simpa using by omega)]
          congr 1
          simp; omega
  have h3 := h2.packG R.length (by simp) hL h
  rwa [List.set_append_right _ _ (by omega), Nat.sub_self] at h3

/-! ### The order of the things doesn't count -/
theorem St.swap {A B : Thing} {T : List Thing} (H : St W w (R ++ A :: B :: T)) : St W w (R ++ B :: A :: T) := by
  have hinj : ∀ a b : Nat, (if a = R.length then R.length + 1 else if a = R.length + 1 then R.length else a) = (if b = R.length then R.length + 1 else if b = R.length + 1 then R.length else b) → a = b := fun a b h => by
    split at h <;> split at h <;> (try split at h) <;> (try split at h) <;> omega
  refine H.pick ((List.range (R ++ A :: B :: T).length).map fun k => if k = R.length then R.length + 1 else if k = R.length + 1 then R.length else k) (List.Pairwise.map _ (fun a b hab h => hab (hinj a b h)) List.nodup_range) (by simp) (fun k i hk => ?_)
  rw [List.getElem?_map] at hk
  obtain ⟨j, hj, rfl⟩ := Option.map_eq_some_iff.1 hk
  obtain ⟨h1, h2⟩ := List.getElem?_eq_some_iff.1 hj
  simp at h1 h2
  subst h2
  by_cases e1 : k = R.length
  · subst e1
    rw [if_pos rfl, List.getElem?_append_right (Nat.le_refl _), List.getElem?_append_right (by omega)]
    simp
  · rw [if_neg e1]
    by_cases e2 : k = R.length + 1
    · subst e2
      rw [if_pos rfl, List.getElem?_append_right (by omega), List.getElem?_append_right (Nat.le_refl _)]
      simp
    · rw [if_neg e2]
      by_cases e3 : k < R.length
      · rw [List.getElem?_append_left e3, List.getElem?_append_left e3]
      · obtain ⟨m, hm⟩ : ∃ m, k = R.length + (m + 2) := ⟨k - R.length - 2, by omega⟩
        subst hm
        rw [List.getElem?_append_right (by omega), List.getElem?_append_right (by omega), Nat.add_sub_cancel_left]
        rfl
theorem St.permG {A B : List Thing} (h : A.Perm B) : ∀ {R : List Thing}, St W w (R ++ A) → St W w (R ++ B) := by
  induction h with
  | nil => exact fun H => H
  | cons x _ ih =>
    intro R H
    have h1 := ih (R := R ++ [x]) (by rw [List.append_assoc]; exact H)
    rw [List.append_assoc] at h1
    exact h1
  | swap x y l => exact fun H => H.swap
  | trans _ _ ih1 ih2 => exact fun H => ih2 (ih1 H)
theorem St.perm {R' : List Thing} (H : St W w R) (h : R.Perm R') : St W w R' := by
  have := St.permG (R := []) h (by simpa using H)
  simpa using this
/-- Some of the things, in any order. -/
theorem St.sub {A B : List Thing} (H : St W w R) (h : R.Perm (A ++ B)) : St W w A := by
  have h1 := (H.perm h).take A.length
  rwa [List.take_left'] at h1
  rfl
end
end Go.Proofs.YtkiccbjngokpjaaGreat

/-
  wire: fields: what it tells.
-/
namespace Go.Proofs.YtkiccbjngokpjaaGreat
open Go.RowKit
set_option linter.unusedVariables false
set_option linter.unusedSimpArgs false

abbrev fsO (l : List (Nat × Fd)) : Obj := .cells (l.flatMap (fun p => Fd.v p.1 p.2)).toArray 107
/-- A kind's fields, told: a row of them, and they. -/
def FldsTo (W : Base) (R : List Thing) (k : Int) (e : Ending) (w' : World) : Prop :=
  ∃ (a : Option Addr) (l : List (Nat × Fd)) (T : List Thing), l.map (·.2) = fdsOf k ∧ e = .returned (.slice a l.length l.length) ∧ St W w' (R ++ T) ∧ ((l = [] ∧ T = []) ∨ ∃ B, a = some ⟨B, 0, none⟩ ∧ T = BlkT B (fsO l) :: l.map (fun p => FdT p.1 p.2))

section
variable {W : Base} {w : World} {R : List Thing}
theorem St.assoc {A B : List Thing} (H : St W w (R ++ A ++ B)) : St W w (R ++ (A ++ B)) := by rwa [List.append_assoc] at H
/-- Some of the things behind R, in another order. -/
theorem St.sel {L : List Thing} (H : St W w (R ++ L)) (ix : List Nat) (hnd : ix.Nodup) (hlt : ix.all (fun i => decide (i < L.length)) = true) : St W w (R ++ ix.map (fun i => L.getD i NilT)) := by
  refine H.pick (List.range R.length ++ ix.map (fun i => R.length + i)) ?_ (by simp) fun k i hk => ?_
  · rw [List.nodup_append]
    refine ⟨List.nodup_range, ?_, fun a ha b hb => ?_⟩
    · unfold List.Nodup at hnd ⊢
      rw [List.pairwise_map]
      exact hnd.imp (fun h e => h (by omega))
    · simp at ha hb
      obtain ⟨k, hk, rfl⟩ := hb
      omega
  · by_cases h : k < R.length
    · rw [List.getElem?_append_left (by simpa using h), List.getElem?_range h] at hk
      cases hk
      rw [List.getElem?_append_left h, List.getElem?_append_left h]
    · rw [List.getElem?_append_right (by simpa using h)] at hk
      simp only [List.length_range, List.getElem?_map] at hk
      obtain ⟨j, hj, rfl⟩ := Option.map_eq_some_iff.1 hk
      have hj2 := List.all_eq_true.1 hlt j (List.mem_of_getElem? hj)
      simp only [decide_eq_true_eq] at hj2
      rw [List.getElem?_append_right (by omega), List.getElem?_append_right (by omega), Nat.add_sub_cancel_left, List.getElem?_map, hj]
      simp [List.getD_eq_getElem?_getD, hj2]
set_option maxHeartbeats 4000000 in
set_option maxRecDepth 100000 in
theorem st_fields (H : St W w R) (k : Int) (h4 : k ≠ 4) : Calls Tryz.prog 38 #[.int .i64 k] w (FldsTo W R k) := by
  have hsf := run_store_func
  have e1 : selF 1 = 53 := rfl
  have e2 : selF 2 = 54 := rfl
  have e3 : selF 3 = 55 := rfl
  have e4 : selF 4 = 56 := rfl
  have e9 : selF 9 = 62 := rfl
  have e10 : selF 10 = 63 := rfl
  have HE := hid (And.intro e1 (And.intro e2 (And.intro e3 (And.intro e4 (And.intro e9 e10)))))
  clear e1 e2 e3 e4 e9 e10
  have h4 := hid h4
  have H := hid H
  go_enter Tryz.func38, Tryz.ntmps38
  go_wp2_with fail
  have HC := st_whole H.out 1 1 1099511627776
  rw [HE.out.1] at HC
  refine HC.mono ?_
  clear HC
  rintro e w1 ⟨rfl, HX⟩
  (try simp only [List.append_assoc, List.cons_append, List.nil_append] at HX)
  have HX := hid HX
  clear H
  dsimp only [Fd.v]
  generalize w.heap.size = b1 at HX ⊢
  go_wp2_with fail
  have HY := HX.out.alloc (fdO b1 fS)
  (try simp only [List.append_assoc, List.cons_append, List.nil_append] at HY)
  generalize w1.heap.size = c1 at HY ⊢
  have HY := hid HY
  clear HX
  show Calls _ _ _ (w1.alloc (fdO b1 fS)) _
  obtain ⟨v1, hwv⟩ : ∃ v, w1.alloc (fdO b1 fS) = v := ⟨_, rfl⟩
  rw [hwv] at HY ⊢
  clear hwv
  have HC := st_whole HY.out 2 1 1099511627776
  rw [HE.out.2.1] at HC
  refine HC.mono ?_
  clear HC
  rintro e w2 ⟨rfl, HX⟩
  (try simp only [List.append_assoc, List.cons_append, List.nil_append] at HX)
  have HX := hid HX
  clear HY
  dsimp only [Fd.v]
  generalize v1.heap.size = b2 at HX ⊢
  go_wp2_with fail
  have HY := HX.out.alloc (fdO b2 fN)
  (try simp only [List.append_assoc, List.cons_append, List.nil_append] at HY)
  generalize w2.heap.size = c2 at HY ⊢
  have HY := hid HY
  clear HX
  show Calls _ _ _ (w2.alloc (fdO b2 fN)) _
  obtain ⟨v2, hwv⟩ : ∃ v, w2.alloc (fdO b2 fN) = v := ⟨_, rfl⟩
  rw [hwv] at HY ⊢
  clear hwv
  have HC := st_whole HY.out 3 1 8
  rw [HE.out.2.2.1] at HC
  refine HC.mono ?_
  clear HC
  rintro e w3 ⟨rfl, HX⟩
  (try simp only [List.append_assoc, List.cons_append, List.nil_append] at HX)
  have HX := hid HX
  clear HY
  dsimp only [Fd.v]
  generalize v2.heap.size = b3 at HX ⊢
  go_wp2_with fail
  have HY := HX.out.alloc (fdO b3 fJ)
  (try simp only [List.append_assoc, List.cons_append, List.nil_append] at HY)
  generalize w3.heap.size = c3 at HY ⊢
  have HY := hid HY
  clear HX
  show Calls _ _ _ (w3.alloc (fdO b3 fJ)) _
  obtain ⟨v3, hwv⟩ : ∃ v, w3.alloc (fdO b3 fJ) = v := ⟨_, rfl⟩
  rw [hwv] at HY ⊢
  clear hwv
  have HC := st_whole HY.out 4 1 1099511627776
  rw [HE.out.2.2.2.1] at HC
  refine HC.mono ?_
  clear HC
  rintro e w4 ⟨rfl, HX⟩
  (try simp only [List.append_assoc, List.cons_append, List.nil_append] at HX)
  have HX := hid HX
  clear HY
  dsimp only [Fd.v]
  generalize v3.heap.size = b4 at HX ⊢
  go_wp2_with fail
  have HY := HX.out.alloc (fdO b4 fB)
  (try simp only [List.append_assoc, List.cons_append, List.nil_append] at HY)
  generalize w4.heap.size = c4 at HY ⊢
  have HY := hid HY
  clear HX
  show Calls _ _ _ (w4.alloc (fdO b4 fB)) _
  obtain ⟨v4, hwv⟩ : ∃ v, w4.alloc (fdO b4 fB) = v := ⟨_, rfl⟩
  rw [hwv] at HY ⊢
  clear hwv
  have HC := st_wtext HY.out 9 0 32
  rw [HE.out.2.2.2.2.1] at HC
  refine HC.mono ?_
  clear HC
  rintro e w5 ⟨rfl, HX⟩
  (try simp only [List.append_assoc, List.cons_append, List.nil_append] at HX)
  have HX := hid HX
  clear HY
  dsimp only [Fd.v]
  generalize v4.heap.size = b5 at HX ⊢
  go_wp2_with fail
  have HY := HX.out.alloc (fdO b5 fL)
  (try simp only [List.append_assoc, List.cons_append, List.nil_append] at HY)
  generalize w5.heap.size = c5 at HY ⊢
  have HY := hid HY
  clear HX
  show Calls _ _ _ (w5.alloc (fdO b5 fL)) _
  obtain ⟨v5, hwv⟩ : ∃ v, w5.alloc (fdO b5 fL) = v := ⟨_, rfl⟩
  rw [hwv] at HY ⊢
  clear hwv
  have HC := st_wtext HY.out 10 1 1024
  rw [HE.out.2.2.2.2.2] at HC
  refine HC.mono ?_
  clear HC
  rintro e w6 ⟨rfl, HX⟩
  (try simp only [List.append_assoc, List.cons_append, List.nil_append] at HX)
  have HX := hid HX
  clear HY
  dsimp only [Fd.v]
  generalize v5.heap.size = b6 at HX ⊢
  go_upto_region 9 with (fail)
  have HY := HX.out.alloc (fdO b6 fP)
  (try simp only [List.append_assoc, List.cons_append, List.nil_append] at HY)
  generalize w6.heap.size = c6 at HY ⊢
  have HY := hid HY
  clear HX
  show Code.wp _ _ _ _ (w6.alloc (fdO b6 fP))
  obtain ⟨v6, hwv⟩ : ∃ v, w6.alloc (fdO b6 fP) = v := ⟨_, rfl⟩
  rw [hwv] at HY ⊢
  clear hwv
  have hb1 := HY.out.blk _ (get_behind R _ 1)
  have hb2 := HY.out.blk _ (get_behind R _ 3)
  have hb3 := HY.out.blk _ (get_behind R _ 5)
  have hb4 := HY.out.blk _ (get_behind R _ 7)
  have hb5 := HY.out.blk _ (get_behind R _ 9)
  have hb6 := HY.out.blk _ (get_behind R _ 11)
  have HB := hid (And.intro hb1 (And.intro hb2 (And.intro hb3 (And.intro hb4 (And.intro hb5 hb6)))))
  clear hb1 hb2 hb3 hb4 hb5 hb6
  by_cases h3 : k = 3
  · subst h3
    have y1_0 := cell_blk (i := 0) HB.out.1 rfl
    have y1_1 := cell_blk (i := 1) HB.out.1 rfl
    have y1_2 := cell_blk (i := 2) HB.out.1 rfl
    dsimp only [Fd.v] at y1_0 y1_1 y1_2
    have y2_0 := cell_blk (i := 0) HB.out.2.1 rfl
    have y2_1 := cell_blk (i := 1) HB.out.2.1 rfl
    have y2_2 := cell_blk (i := 2) HB.out.2.1 rfl
    dsimp only [Fd.v] at y2_0 y2_1 y2_2
    have y4_0 := cell_blk (i := 0) HB.out.2.2.2.1 rfl
    have y4_1 := cell_blk (i := 1) HB.out.2.2.2.1 rfl
    have y4_2 := cell_blk (i := 2) HB.out.2.2.2.1 rfl
    dsimp only [Fd.v] at y4_0 y4_1 y4_2
    go_wp2_with fail
    go_ret
    refine ⟨some ⟨v6.heap.size, 0, none⟩, [(b1, fS), (b2, fN), (b4, fB)], _, rfl, rfl, ((HY.out.alloc (fsO [(b1, fS), (b2, fN), (b4, fB)])).assoc.sel [12, 0, 2, 6] (by decide) rfl), .inr ⟨_, rfl, rfl⟩⟩
  by_cases h5 : k = 5
  · subst h5
    have y4_0 := cell_blk (i := 0) HB.out.2.2.2.1 rfl
    have y4_1 := cell_blk (i := 1) HB.out.2.2.2.1 rfl
    have y4_2 := cell_blk (i := 2) HB.out.2.2.2.1 rfl
    dsimp only [Fd.v] at y4_0 y4_1 y4_2
    have y5_0 := cell_blk (i := 0) HB.out.2.2.2.2.1 rfl
    have y5_1 := cell_blk (i := 1) HB.out.2.2.2.2.1 rfl
    have y5_2 := cell_blk (i := 2) HB.out.2.2.2.2.1 rfl
    dsimp only [Fd.v] at y5_0 y5_1 y5_2
    go_wp2_with fail
    have HS := hid (show ∀ (wx : World) (Q : List Thing), St W wx (R ++ [FdT b1 fS, BlkT c1 (fdO b1 fS), FdT b2 fN, BlkT c2 (fdO b2 fN), FdT b3 fJ, BlkT c3 (fdO b3 fJ), FdT b4 fB, BlkT c4 (fdO b4 fB), FdT b5 fL, BlkT c5 (fdO b5 fL), FdT b6 fP, BlkT c6 (fdO b6 fP)] ++ Q) → wx.cell? ⟨c4, 0, none⟩ = some (.func (.func 87) #[] #[ptr b4, ptr (b4 + 1), ptr (b4 + 2)]) ∧ wx.cell? ⟨c4, 1, none⟩ = some (.func (.func 88) #[] #[ptr b4]) ∧ wx.cell? ⟨c4, 2, none⟩ = some (.func (.func 89) #[] #[ptr b4]) ∧ wx.cell? ⟨c5, 0, none⟩ = some (.func (.func 90) #[] #[ptr b5, ptr (b5 + 1), ptr (b5 + 2)]) ∧ wx.cell? ⟨c5, 1, none⟩ = some (.func (.func 91) #[] #[ptr b5]) ∧ wx.cell? ⟨c5, 2, none⟩ = some (.func (.func 93) #[] #[ptr (b5 + 2), ptr b5]) from fun wx Q H => ⟨cell_blk (i := 0) (H.assoc.blk _ (get_behind R _ 7)) rfl, cell_blk (i := 1) (H.assoc.blk _ (get_behind R _ 7)) rfl, cell_blk (i := 2) (H.assoc.blk _ (get_behind R _ 7)) rfl, cell_blk (i := 0) (H.assoc.blk _ (get_behind R _ 9)) rfl, cell_blk (i := 1) (H.assoc.blk _ (get_behind R _ 9)) rfl, cell_blk (i := 2) (H.assoc.blk _ (get_behind R _ 9)) rfl⟩)
    go_region_held3 (fun wx : World => wx.cell? ⟨c4, 0, none⟩ = some (.func (.func 87) #[] #[ptr b4, ptr (b4 + 1), ptr (b4 + 2)]) ∧ wx.cell? ⟨c4, 1, none⟩ = some (.func (.func 88) #[] #[ptr b4]) ∧ wx.cell? ⟨c4, 2, none⟩ = some (.func (.func 89) #[] #[ptr b4]) ∧ wx.cell? ⟨c5, 0, none⟩ = some (.func (.func 90) #[] #[ptr b5, ptr (b5 + 1), ptr (b5 + 2)]) ∧ wx.cell? ⟨c5, 1, none⟩ = some (.func (.func 91) #[] #[ptr b5]) ∧ wx.cell? ⟨c5, 2, none⟩ = some (.func (.func 93) #[] #[ptr (b5 + 2), ptr b5])) ((first | exact HS.out _ _ HX.out | exact HS.out _ _ (HX.out.alloc_ _) | exact ⟨y4_0, y4_1, y4_2, y5_0, y5_1, y5_2⟩)) (first | (go_at_call 57; refine (st_index HY.out.drew 31).mono ?_; rintro e w7 ⟨b7, rfl, HX⟩; dsimp only [Fd.v]; have HX := hid HX))
    go_wp2_with fail
    go_ret
    refine ⟨some ⟨w7.heap.size, 0, none⟩, [(b4, fB), (b7, fI 31), (b5, fL)], _, rfl, rfl, ((HX.out.assoc.alloc (fsO [(b4, fB), (b7, fI 31), (b5, fL)])).assoc.sel [13, 6, 12, 8] (by decide) rfl), .inr ⟨_, rfl, rfl⟩⟩
  by_cases h6 : k = 6
  · subst h6
    have y3_0 := cell_blk (i := 0) HB.out.2.2.1 rfl
    have y3_1 := cell_blk (i := 1) HB.out.2.2.1 rfl
    have y3_2 := cell_blk (i := 2) HB.out.2.2.1 rfl
    dsimp only [Fd.v] at y3_0 y3_1 y3_2
    have y4_0 := cell_blk (i := 0) HB.out.2.2.2.1 rfl
    have y4_1 := cell_blk (i := 1) HB.out.2.2.2.1 rfl
    have y4_2 := cell_blk (i := 2) HB.out.2.2.2.1 rfl
    dsimp only [Fd.v] at y4_0 y4_1 y4_2
    have y5_0 := cell_blk (i := 0) HB.out.2.2.2.2.1 rfl
    have y5_1 := cell_blk (i := 1) HB.out.2.2.2.2.1 rfl
    have y5_2 := cell_blk (i := 2) HB.out.2.2.2.2.1 rfl
    dsimp only [Fd.v] at y5_0 y5_1 y5_2
    go_wp2_with fail
    have HS := hid (show ∀ (wx : World) (Q : List Thing), St W wx (R ++ [FdT b1 fS, BlkT c1 (fdO b1 fS), FdT b2 fN, BlkT c2 (fdO b2 fN), FdT b3 fJ, BlkT c3 (fdO b3 fJ), FdT b4 fB, BlkT c4 (fdO b4 fB), FdT b5 fL, BlkT c5 (fdO b5 fL), FdT b6 fP, BlkT c6 (fdO b6 fP)] ++ Q) → wx.cell? ⟨c3, 0, none⟩ = some (.func (.func 87) #[] #[ptr b3, ptr (b3 + 1), ptr (b3 + 2)]) ∧ wx.cell? ⟨c3, 1, none⟩ = some (.func (.func 88) #[] #[ptr b3]) ∧ wx.cell? ⟨c3, 2, none⟩ = some (.func (.func 89) #[] #[ptr b3]) ∧ wx.cell? ⟨c4, 0, none⟩ = some (.func (.func 87) #[] #[ptr b4, ptr (b4 + 1), ptr (b4 + 2)]) ∧ wx.cell? ⟨c4, 1, none⟩ = some (.func (.func 88) #[] #[ptr b4]) ∧ wx.cell? ⟨c4, 2, none⟩ = some (.func (.func 89) #[] #[ptr b4]) ∧ wx.cell? ⟨c5, 0, none⟩ = some (.func (.func 90) #[] #[ptr b5, ptr (b5 + 1), ptr (b5 + 2)]) ∧ wx.cell? ⟨c5, 1, none⟩ = some (.func (.func 91) #[] #[ptr b5]) ∧ wx.cell? ⟨c5, 2, none⟩ = some (.func (.func 93) #[] #[ptr (b5 + 2), ptr b5]) from fun wx Q H => ⟨cell_blk (i := 0) (H.assoc.blk _ (get_behind R _ 5)) rfl, cell_blk (i := 1) (H.assoc.blk _ (get_behind R _ 5)) rfl, cell_blk (i := 2) (H.assoc.blk _ (get_behind R _ 5)) rfl, cell_blk (i := 0) (H.assoc.blk _ (get_behind R _ 7)) rfl, cell_blk (i := 1) (H.assoc.blk _ (get_behind R _ 7)) rfl, cell_blk (i := 2) (H.assoc.blk _ (get_behind R _ 7)) rfl, cell_blk (i := 0) (H.assoc.blk _ (get_behind R _ 9)) rfl, cell_blk (i := 1) (H.assoc.blk _ (get_behind R _ 9)) rfl, cell_blk (i := 2) (H.assoc.blk _ (get_behind R _ 9)) rfl⟩)
    go_region_held3 (fun wx : World => wx.cell? ⟨c3, 0, none⟩ = some (.func (.func 87) #[] #[ptr b3, ptr (b3 + 1), ptr (b3 + 2)]) ∧ wx.cell? ⟨c3, 1, none⟩ = some (.func (.func 88) #[] #[ptr b3]) ∧ wx.cell? ⟨c3, 2, none⟩ = some (.func (.func 89) #[] #[ptr b3]) ∧ wx.cell? ⟨c4, 0, none⟩ = some (.func (.func 87) #[] #[ptr b4, ptr (b4 + 1), ptr (b4 + 2)]) ∧ wx.cell? ⟨c4, 1, none⟩ = some (.func (.func 88) #[] #[ptr b4]) ∧ wx.cell? ⟨c4, 2, none⟩ = some (.func (.func 89) #[] #[ptr b4]) ∧ wx.cell? ⟨c5, 0, none⟩ = some (.func (.func 90) #[] #[ptr b5, ptr (b5 + 1), ptr (b5 + 2)]) ∧ wx.cell? ⟨c5, 1, none⟩ = some (.func (.func 91) #[] #[ptr b5]) ∧ wx.cell? ⟨c5, 2, none⟩ = some (.func (.func 93) #[] #[ptr (b5 + 2), ptr b5])) ((first | exact HS.out _ _ HX.out | exact HS.out _ _ (HX.out.alloc_ _) | exact ⟨y3_0, y3_1, y3_2, y4_0, y4_1, y4_2, y5_0, y5_1, y5_2⟩)) (first | (go_at_call 57; refine (st_index HY.out.drew 16).mono ?_; rintro e w7 ⟨b7, rfl, HX⟩; dsimp only [Fd.v]; have HX := hid HX))
    go_wp2_with fail
    go_ret
    refine ⟨some ⟨w7.heap.size, 0, none⟩, [(b3, fJ), (b4, fB), (b7, fI 16), (b5, fL)], _, rfl, rfl, ((HX.out.assoc.alloc (fsO [(b3, fJ), (b4, fB), (b7, fI 16), (b5, fL)])).assoc.sel [13, 4, 6, 12, 8] (by decide) rfl), .inr ⟨_, rfl, rfl⟩⟩
  by_cases h7 : k = 7
  · subst h7
    have y1_0 := cell_blk (i := 0) HB.out.1 rfl
    have y1_1 := cell_blk (i := 1) HB.out.1 rfl
    have y1_2 := cell_blk (i := 2) HB.out.1 rfl
    dsimp only [Fd.v] at y1_0 y1_1 y1_2
    go_wp2_with fail
    go_ret
    refine ⟨some ⟨v6.heap.size, 0, none⟩, [(b1, fS)], _, rfl, rfl, ((HY.out.alloc (fsO [(b1, fS)])).assoc.sel [12, 0] (by decide) rfl), .inr ⟨_, rfl, rfl⟩⟩
  by_cases h9 : k = 9
  · subst h9
    have y1_0 := cell_blk (i := 0) HB.out.1 rfl
    have y1_1 := cell_blk (i := 1) HB.out.1 rfl
    have y1_2 := cell_blk (i := 2) HB.out.1 rfl
    dsimp only [Fd.v] at y1_0 y1_1 y1_2
    have y2_0 := cell_blk (i := 0) HB.out.2.1 rfl
    have y2_1 := cell_blk (i := 1) HB.out.2.1 rfl
    have y2_2 := cell_blk (i := 2) HB.out.2.1 rfl
    dsimp only [Fd.v] at y2_0 y2_1 y2_2
    have y3_0 := cell_blk (i := 0) HB.out.2.2.1 rfl
    have y3_1 := cell_blk (i := 1) HB.out.2.2.1 rfl
    have y3_2 := cell_blk (i := 2) HB.out.2.2.1 rfl
    dsimp only [Fd.v] at y3_0 y3_1 y3_2
    have y4_0 := cell_blk (i := 0) HB.out.2.2.2.1 rfl
    have y4_1 := cell_blk (i := 1) HB.out.2.2.2.1 rfl
    have y4_2 := cell_blk (i := 2) HB.out.2.2.2.1 rfl
    dsimp only [Fd.v] at y4_0 y4_1 y4_2
    have y6_0 := cell_blk (i := 0) HB.out.2.2.2.2.2 rfl
    have y6_1 := cell_blk (i := 1) HB.out.2.2.2.2.2 rfl
    have y6_2 := cell_blk (i := 2) HB.out.2.2.2.2.2 rfl
    dsimp only [Fd.v] at y6_0 y6_1 y6_2
    go_wp2_with fail
    go_ret
    refine ⟨some ⟨v6.heap.size, 0, none⟩, [(b1, fS), (b2, fN), (b3, fJ), (b4, fB), (b6, fP)], _, rfl, rfl, ((HY.out.alloc (fsO [(b1, fS), (b2, fN), (b3, fJ), (b4, fB), (b6, fP)])).assoc.sel [12, 0, 2, 4, 6, 10] (by decide) rfl), .inr ⟨_, rfl, rfl⟩⟩
  by_cases h14 : k = 14
  · subst h14
    have y4_0 := cell_blk (i := 0) HB.out.2.2.2.1 rfl
    have y4_1 := cell_blk (i := 1) HB.out.2.2.2.1 rfl
    have y4_2 := cell_blk (i := 2) HB.out.2.2.2.1 rfl
    dsimp only [Fd.v] at y4_0 y4_1 y4_2
    go_wp2_with fail
    have HS := hid (show ∀ (wx : World) (Q : List Thing), St W wx (R ++ [FdT b1 fS, BlkT c1 (fdO b1 fS), FdT b2 fN, BlkT c2 (fdO b2 fN), FdT b3 fJ, BlkT c3 (fdO b3 fJ), FdT b4 fB, BlkT c4 (fdO b4 fB), FdT b5 fL, BlkT c5 (fdO b5 fL), FdT b6 fP, BlkT c6 (fdO b6 fP)] ++ Q) → wx.cell? ⟨c4, 0, none⟩ = some (.func (.func 87) #[] #[ptr b4, ptr (b4 + 1), ptr (b4 + 2)]) ∧ wx.cell? ⟨c4, 1, none⟩ = some (.func (.func 88) #[] #[ptr b4]) ∧ wx.cell? ⟨c4, 2, none⟩ = some (.func (.func 89) #[] #[ptr b4]) from fun wx Q H => ⟨cell_blk (i := 0) (H.assoc.blk _ (get_behind R _ 7)) rfl, cell_blk (i := 1) (H.assoc.blk _ (get_behind R _ 7)) rfl, cell_blk (i := 2) (H.assoc.blk _ (get_behind R _ 7)) rfl⟩)
    go_region_held3 (fun wx : World => wx.cell? ⟨c4, 0, none⟩ = some (.func (.func 87) #[] #[ptr b4, ptr (b4 + 1), ptr (b4 + 2)]) ∧ wx.cell? ⟨c4, 1, none⟩ = some (.func (.func 88) #[] #[ptr b4]) ∧ wx.cell? ⟨c4, 2, none⟩ = some (.func (.func 89) #[] #[ptr b4])) ((first | exact HS.out _ _ HX.out | exact HS.out _ _ (HX.out.alloc_ _) | exact ⟨y4_0, y4_1, y4_2⟩)) (first | (go_at_call 59; refine (st_count HY.out.drew 32).mono ?_; rintro e w7 ⟨b7, rfl, HX⟩; dsimp only [Fd.v]; have HX := hid HX))
    go_wp2_with fail
    go_ret
    refine ⟨some ⟨w7.heap.size, 0, none⟩, [(b4, fB), (b7, fC 32)], _, rfl, rfl, ((HX.out.assoc.alloc (fsO [(b4, fB), (b7, fC 32)])).assoc.sel [13, 6, 12] (by decide) rfl), .inr ⟨_, rfl, rfl⟩⟩
  by_cases h15 : k = 15
  · subst h15
    have y3_0 := cell_blk (i := 0) HB.out.2.2.1 rfl
    have y3_1 := cell_blk (i := 1) HB.out.2.2.1 rfl
    have y3_2 := cell_blk (i := 2) HB.out.2.2.1 rfl
    dsimp only [Fd.v] at y3_0 y3_1 y3_2
    have y4_0 := cell_blk (i := 0) HB.out.2.2.2.1 rfl
    have y4_1 := cell_blk (i := 1) HB.out.2.2.2.1 rfl
    have y4_2 := cell_blk (i := 2) HB.out.2.2.2.1 rfl
    dsimp only [Fd.v] at y4_0 y4_1 y4_2
    go_wp2_with fail
    have HS := hid (show ∀ (wx : World) (Q : List Thing), St W wx (R ++ [FdT b1 fS, BlkT c1 (fdO b1 fS), FdT b2 fN, BlkT c2 (fdO b2 fN), FdT b3 fJ, BlkT c3 (fdO b3 fJ), FdT b4 fB, BlkT c4 (fdO b4 fB), FdT b5 fL, BlkT c5 (fdO b5 fL), FdT b6 fP, BlkT c6 (fdO b6 fP)] ++ Q) → wx.cell? ⟨c3, 0, none⟩ = some (.func (.func 87) #[] #[ptr b3, ptr (b3 + 1), ptr (b3 + 2)]) ∧ wx.cell? ⟨c3, 1, none⟩ = some (.func (.func 88) #[] #[ptr b3]) ∧ wx.cell? ⟨c3, 2, none⟩ = some (.func (.func 89) #[] #[ptr b3]) ∧ wx.cell? ⟨c4, 0, none⟩ = some (.func (.func 87) #[] #[ptr b4, ptr (b4 + 1), ptr (b4 + 2)]) ∧ wx.cell? ⟨c4, 1, none⟩ = some (.func (.func 88) #[] #[ptr b4]) ∧ wx.cell? ⟨c4, 2, none⟩ = some (.func (.func 89) #[] #[ptr b4]) from fun wx Q H => ⟨cell_blk (i := 0) (H.assoc.blk _ (get_behind R _ 5)) rfl, cell_blk (i := 1) (H.assoc.blk _ (get_behind R _ 5)) rfl, cell_blk (i := 2) (H.assoc.blk _ (get_behind R _ 5)) rfl, cell_blk (i := 0) (H.assoc.blk _ (get_behind R _ 7)) rfl, cell_blk (i := 1) (H.assoc.blk _ (get_behind R _ 7)) rfl, cell_blk (i := 2) (H.assoc.blk _ (get_behind R _ 7)) rfl⟩)
    go_region_held3 (fun wx : World => wx.cell? ⟨c3, 0, none⟩ = some (.func (.func 87) #[] #[ptr b3, ptr (b3 + 1), ptr (b3 + 2)]) ∧ wx.cell? ⟨c3, 1, none⟩ = some (.func (.func 88) #[] #[ptr b3]) ∧ wx.cell? ⟨c3, 2, none⟩ = some (.func (.func 89) #[] #[ptr b3]) ∧ wx.cell? ⟨c4, 0, none⟩ = some (.func (.func 87) #[] #[ptr b4, ptr (b4 + 1), ptr (b4 + 2)]) ∧ wx.cell? ⟨c4, 1, none⟩ = some (.func (.func 88) #[] #[ptr b4]) ∧ wx.cell? ⟨c4, 2, none⟩ = some (.func (.func 89) #[] #[ptr b4])) ((first | exact HS.out _ _ HX.out | exact HS.out _ _ (HX.out.alloc_ _) | exact ⟨y3_0, y3_1, y3_2, y4_0, y4_1, y4_2⟩)) (first | (go_at_call 59; refine (st_count HY.out.drew 17).mono ?_; rintro e w7 ⟨b7, rfl, HX⟩; dsimp only [Fd.v]; have HX := hid HX))
    go_wp2_with fail
    go_ret
    refine ⟨some ⟨w7.heap.size, 0, none⟩, [(b3, fJ), (b4, fB), (b7, fC 17)], _, rfl, rfl, ((HX.out.assoc.alloc (fsO [(b3, fJ), (b4, fB), (b7, fC 17)])).assoc.sel [13, 4, 6, 12] (by decide) rfl), .inr ⟨_, rfl, rfl⟩⟩
  by_cases h16 : k = 16
  · subst h16
    have y3_0 := cell_blk (i := 0) HB.out.2.2.1 rfl
    have y3_1 := cell_blk (i := 1) HB.out.2.2.1 rfl
    have y3_2 := cell_blk (i := 2) HB.out.2.2.1 rfl
    dsimp only [Fd.v] at y3_0 y3_1 y3_2
    have y4_0 := cell_blk (i := 0) HB.out.2.2.2.1 rfl
    have y4_1 := cell_blk (i := 1) HB.out.2.2.2.1 rfl
    have y4_2 := cell_blk (i := 2) HB.out.2.2.2.1 rfl
    dsimp only [Fd.v] at y4_0 y4_1 y4_2
    go_wp2_with fail
    go_ret
    refine ⟨some ⟨v6.heap.size, 0, none⟩, [(b3, fJ), (b4, fB)], _, rfl, rfl, ((HY.out.alloc (fsO [(b3, fJ), (b4, fB)])).assoc.sel [12, 4, 6] (by decide) rfl), .inr ⟨_, rfl, rfl⟩⟩
  by_cases h1 : k = 1
  · subst h1
    go_wp2_with fail
    go_ret
    exact ⟨none, [], [], rfl, rfl, by rw [List.append_nil]; exact HY.out.drop, .inl ⟨rfl, rfl⟩⟩
  have e3 : (k == 3) = false := by rw [beq_eq_false_iff_ne]; exact h3
  have e4 : (k == 4) = false := by rw [beq_eq_false_iff_ne]; exact h4.out
  have e5 : (k == 5) = false := by rw [beq_eq_false_iff_ne]; exact h5
  have e6 : (k == 6) = false := by rw [beq_eq_false_iff_ne]; exact h6
  have e7 : (k == 7) = false := by rw [beq_eq_false_iff_ne]; exact h7
  have e9 : (k == 9) = false := by rw [beq_eq_false_iff_ne]; exact h9
  have e14 : (k == 14) = false := by rw [beq_eq_false_iff_ne]; exact h14
  have e15 : (k == 15) = false := by rw [beq_eq_false_iff_ne]; exact h15
  have e16 : (k == 16) = false := by rw [beq_eq_false_iff_ne]; exact h16
  have e1 : (k == 1) = false := by rw [beq_eq_false_iff_ne]; exact h1
  have hf : fdsOf k = [fS, fN] := by unfold fdsOf; rw [if_neg h3, if_neg h4.out, if_neg h5, if_neg h6, if_neg h7, if_neg h9, if_neg h14, if_neg h15, if_neg h16, if_neg h1]
  have hf := hid hf
  clear h3 h5 h6 h7 h9 h14 h15 h16 h1
  have y1_0 := cell_blk (i := 0) HB.out.1 rfl
  have y1_1 := cell_blk (i := 1) HB.out.1 rfl
  have y1_2 := cell_blk (i := 2) HB.out.1 rfl
  dsimp only [Fd.v] at y1_0 y1_1 y1_2
  have y2_0 := cell_blk (i := 0) HB.out.2.1 rfl
  have y2_1 := cell_blk (i := 1) HB.out.2.1 rfl
  have y2_2 := cell_blk (i := 2) HB.out.2.1 rfl
  dsimp only [Fd.v] at y2_0 y2_1 y2_2
  go_wp2_with fail
  go_ret
  refine ⟨some ⟨v6.heap.size, 0, none⟩, [(b1, fS), (b2, fN)], _, hf.out.symm, rfl, ((HY.out.alloc (fsO [(b1, fS), (b2, fN)])).assoc.sel [12, 0, 2] (by decide) rfl), .inr ⟨_, rfl, rfl⟩⟩
end

end Go.Proofs.YtkiccbjngokpjaaGreat
