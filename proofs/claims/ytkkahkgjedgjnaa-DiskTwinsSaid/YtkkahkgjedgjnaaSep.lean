/-
  Things in memory, each by itself: a world that holds a list of them, and all that was there at first. Of no program.
-/
import Derived.Test.YtkkahkgjedgjnaaRow
namespace Go.Proofs.Ytkkahkgjedgjnaa
open Go.RowKit
set_option linter.unusedVariables false
set_option linter.unusedSimpArgs false

/-- A thing in memory, and its blocks. -/
abbrev Thing := World → List Nat → Prop

/-- It speaks of its blocks alone. -/
class Loc (A : Thing) : Prop where
  keep : ∀ {w w' : World} {F G : List Nat}, A w F → Fr G w w' → (∀ x, x ∈ F → x ∉ G) → A w' F
  lt : ∀ {w : World} {F : List Nat}, A w F → ∀ x, x ∈ F → x < w.heap.size

/-- All that was there at W is as it was; the things of R stand, each by itself, in new blocks. -/
structure St (W w : World) (R : List Thing) : Prop where
  fr : Fr [] W w
  ex : ∃ Fs : List (List Nat), Fs.length = R.length ∧ (∀ (i : Nat) (A : Thing) (F : List Nat), R[i]? = some A → Fs[i]? = some F → A w F ∧ Loc A ∧ ∀ x, x ∈ F → W.heap.size ≤ x) ∧
    (∀ (i j : Nat) (F G : List Nat), Fs[i]? = some F → Fs[j]? = some G → i ≠ j → ∀ x, x ∈ F → x ∉ G)

theorem St.refl (W : World) : St W W [] := ⟨Fr.refl _ _, [], rfl, by simp, by simp⟩

theorem St.same {W w w' : World} {R : List Thing} (h : St W w R) (hF : Fr [] w w') : St W w' R := by
  obtain ⟨h1, Fs, h2, h3, h4⟩ := h
  refine ⟨h1.trans hF, Fs, h2, fun i A F hA hi => ?_, h4⟩
  obtain ⟨k1, k2, k3⟩ := h3 i A F hA hi
  exact ⟨k2.keep k1 hF (by simp), k2, k3⟩

theorem St.drew {W w : World} {R : List Thing} (h : St W w R) : St W w.drew R := h.same ((Fr.refl _ _).drew)
theorem St.drewN {W w : World} {R : List Thing} (h : St W w R) (n : Nat) : St W (w.drewN n) R := h.same ((Fr.refl _ _).drewN n)

/-- A frame over things that lie behind W. -/
theorem Fr.behind {W w w' : World} {F : List Nat} (h : Fr [] W w) (hF : Fr F w w') (hb : ∀ x, x ∈ F → W.heap.size ≤ x) : Fr [] W w' := h.step hF (fun x hx => .inr (hb x hx))

/-- One of the things: it stands, and may be changed. -/
theorem St.at {W w : World} {R : List Thing} (h : St W w R) (i : Nat) {A : Thing} (hi : R[i]? = some A) :
    ∃ F, A w F ∧ (∀ x, x ∈ F → W.heap.size ≤ x) ∧ ∀ (w' : World) (F' : List Nat) (A' : Thing), Loc A' → A' w' F' → Fr F w w' → (∀ x, x ∈ F' → x ∈ F ∨ w.heap.size ≤ x) → St W w' (R.set i A') := by
  obtain ⟨h1, Fs, h2, h3, h4⟩ := h
  have hlt : i < R.length := by
    rcases Nat.lt_or_ge i R.length with h | h
    · exact h
    · rw [List.getElem?_eq_none h] at hi; cases hi
  have hFi : Fs[i]? = some (Fs[i]'(by omega)) := List.getElem?_eq_getElem (by omega)
  generalize Fs[i]'(by omega) = F at hFi
  obtain ⟨k1, k2, k3⟩ := h3 i A F hi hFi
  refine ⟨F, k1, k3, fun w' F' A' hL hA' hFr hsub => ⟨h1.behind hFr k3, Fs.set i F', by simp [h2], fun j B G hB hG => ?_, fun j k G K hG hK hjk x hx hxk => ?_⟩⟩
  · by_cases hij : i = j
    · subst hij
      rw [List.getElem?_set_self (by omega)] at hB hG
      cases hB; cases hG
      refine ⟨hA', hL, fun x hx => ?_⟩
      rcases hsub x hx with h | h
      · exact k3 x h
      · exact Nat.le_trans h1.size h
    · rw [List.getElem?_set_ne hij] at hB hG
      obtain ⟨q1, q2, q3⟩ := h3 j B G hB hG
      exact ⟨q2.keep q1 hFr (fun x hx hxF => h4 j i G F hG hFi (fun e => hij e.symm) x hx hxF), q2, q3⟩
  · by_cases hij : i = j
    · subst hij
      rw [List.getElem?_set_self (by omega)] at hG
      cases hG
      rw [List.getElem?_set_ne hjk] at hK
      rcases hsub x hx with h | h
      · exact h4 i k F K hFi hK hjk x h hxk
      · obtain ⟨q1, q2, q3⟩ := h3 k (R[k]'(by have := (List.getElem?_eq_some_iff.1 hK).1; omega)) K (List.getElem?_eq_getElem _) hK
        have := q2.lt q1 x hxk; omega
    · rw [List.getElem?_set_ne hij] at hG
      by_cases hik : i = k
      · subst hik
        rw [List.getElem?_set_self (by omega)] at hK
        cases hK
        rcases hsub x hxk with h | h
        · exact h4 j i G F hG hFi hjk x hx h
        · obtain ⟨q1, q2, q3⟩ := h3 j (R[j]'(by have := (List.getElem?_eq_some_iff.1 hG).1; omega)) G (List.getElem?_eq_getElem _) hG
          have := q2.lt q1 x hx; omega
      · rw [List.getElem?_set_ne hik] at hK
        exact h4 j k G K hG hK hjk x hx hxk

/-- One of them, which is read. -/
theorem St.get {W w : World} {R : List Thing} (h : St W w R) (i : Nat) {A : Thing} (hi : R[i]? = some A) : ∃ F, A w F ∧ (∀ x, x ∈ F → W.heap.size ≤ x) := by
  obtain ⟨F, h1, h2, _⟩ := h.at i hi; exact ⟨F, h1, h2⟩

/-- A thing more. -/
theorem St.new {W w w' : World} {R : List Thing} {A : Thing} {F : List Nat} (h : St W w R) (hF : Fr [] w w') (hL : Loc A) (hA : A w' F) (hn : ∀ x, x ∈ F → w.heap.size ≤ x) : St W w' (R ++ [A]) := by
  have hlt : ∀ (i : Nat) (G : List Nat), (∃ Fs : List (List Nat), Fs.length = R.length ∧ Fs[i]? = some G ∧ ∀ (i : Nat) (A : Thing) (F : List Nat), R[i]? = some A → Fs[i]? = some F → A w F ∧ Loc A ∧ ∀ x, x ∈ F → W.heap.size ≤ x) → ∀ x, x ∈ G → x < w.heap.size := by
    rintro i G ⟨Fs, e, hG, h3⟩ x hx
    have hi : i < R.length := by have := (List.getElem?_eq_some_iff.1 hG).1; omega
    obtain ⟨q1, q2, _⟩ := h3 i _ G (List.getElem?_eq_getElem hi) hG
    exact q2.lt q1 x hx
  have hs := h.fr.size
  have h' := h.same hF
  obtain ⟨_, Fs, h2, h3, h4⟩ := h
  refine ⟨h'.fr, Fs ++ [F], by simp [h2], fun i B G hB hG => ?_, fun i j G K hG hK hij x hx hxk => ?_⟩
  · by_cases hi : i < R.length
    · rw [List.getElem?_append_left hi] at hB
      rw [List.getElem?_append_left (by omega)] at hG
      obtain ⟨q1, q2, q3⟩ := h3 i B G hB hG
      exact ⟨q2.keep q1 hF (by simp), q2, q3⟩
    · have hi' : i = R.length := by
        have := (List.getElem?_eq_some_iff.1 hB).1; simp at this; omega
      subst hi'
      simp at hB
      rw [← h2] at hG
      simp at hG
      subst hB hG
      exact ⟨hA, hL, fun x hx => by have := hn x hx; omega⟩
  · by_cases hi : i < Fs.length
    · rw [List.getElem?_append_left hi] at hG
      by_cases hj : j < Fs.length
      · rw [List.getElem?_append_left hj] at hK
        exact h4 i j G K hG hK hij x hx hxk
      · have hj' : j = Fs.length := by
          have := (List.getElem?_eq_some_iff.1 hK).1; simp at this; omega
        subst hj'
        simp at hK; subst hK
        have := hlt i G ⟨Fs, h2, hG, h3⟩ x hx
        have := hn x hxk
        omega
    · have hi' : i = Fs.length := by
        have := (List.getElem?_eq_some_iff.1 hG).1; simp at this; omega
      subst hi'
      simp at hG; subst hG
      have hj : j < Fs.length := by
        have := (List.getElem?_eq_some_iff.1 hK).1; simp at this; omega
      rw [List.getElem?_append_left hj] at hK
      have := hlt j K ⟨Fs, h2, hK, h3⟩ x hxk
      have := hn x hx
      omega

/-- Some of them, in another order. -/
theorem St.pick {W w : World} {R R' : List Thing} (h : St W w R) (l : List Nat) (hd : l.Nodup) (hl : R'.length = l.length) (hR : ∀ (k i : Nat), l[k]? = some i → R'[k]? = R[i]?) : St W w R' := by
  obtain ⟨h1, Fs, h2, h3, h4⟩ := h
  have hin : ∀ (k i : Nat), l[k]? = some i → i < R.length := fun k i hk => by
    have h5 := hR k i hk
    have h6 : k < R'.length := by rw [hl]; exact (List.getElem?_eq_some_iff.1 hk).1
    rw [List.getElem?_eq_getElem h6] at h5
    exact (List.getElem?_eq_some_iff.1 h5.symm).1
  refine ⟨h1, l.map fun i => Fs.getD i [], by simp [hl], fun k A F hA hF => ?_, fun j k F G hF hG hjk x hx hxg => ?_⟩
  · simp only [List.getElem?_map, Option.map_eq_some_iff] at hF
    obtain ⟨i, hi, rfl⟩ := hF
    have h5 := hin k i hi
    rw [hR k i hi] at hA
    exact h3 i A _ hA (by rw [List.getD, List.getElem?_eq_getElem (by omega)]; rfl)
  · simp only [List.getElem?_map, Option.map_eq_some_iff] at hF hG
    obtain ⟨i, hi, rfl⟩ := hF
    obtain ⟨m, hm, rfl⟩ := hG
    have h5 := hin j i hi
    have h6 := hin k m hm
    refine h4 i m _ _ (by rw [List.getD, List.getElem?_eq_getElem (by omega)]; rfl) (by rw [List.getD, List.getElem?_eq_getElem (by omega)]; rfl) (fun e => hjk ?_) x hx hxg
    subst e
    exact (List.getElem?_inj (List.getElem?_eq_some_iff.1 hi).1 hd).1 (hi.trans hm.symm)

/-- The first n of them. -/
theorem St.take {W w : World} {R : List Thing} (h : St W w R) (n : Nat) : St W w (R.take n) := by
  obtain ⟨h1, Fs, h2, h3, h4⟩ := h
  refine ⟨h1, Fs.take n, by simp [h2], fun i A F hA hF => ?_, fun i j F G hF hG => ?_⟩
  · rw [List.getElem?_take] at hA hF
    split at hA
    · exact h3 i A F hA (by rw [if_pos (by assumption)] at hF; exact hF)
    · cases hA
  · rw [List.getElem?_take] at hF hG
    split at hF <;> split at hG <;> simp_all
    exact h4 i j F G hF hG

/-! ### A block; a row -/
/-- A block, whole. -/
def BlkT (b : Nat) (o : Obj) : Thing := fun w F => F = [b] ∧ w.heap[b]? = some o
instance (b : Nat) (o : Obj) : Loc (BlkT b o) where
  keep := fun ⟨h1, h2⟩ hF hd => ⟨h1, hF.keep h2 (hd b (by simp [h1]))⟩
  lt := fun ⟨h1, h2⟩ x hx => by subst h1; simp at hx; subst hx; exact lt_of_block h2

theorem St.blk {W w : World} {R : List Thing} (h : St W w R) (i : Nat) {b : Nat} {o : Obj} (hi : R[i]? = some (BlkT b o)) : w.heap[b]? = some o := by
  obtain ⟨F, ⟨_, h1⟩, _⟩ := h.get i hi; exact h1

theorem St.alloc {W w : World} {R : List Thing} (h : St W w R) (o : Obj) : St W (w.alloc o) (R ++ [BlkT w.heap.size o]) :=
  h.new ((Fr.refl _ _).alloc o) inferInstance ⟨rfl, blk_alloc_at _ _ _ rfl⟩ (by simp)

theorem St.allocAt {W w : World} {R : List Thing} (h : St W w R) (o : Obj) (n : Nat) (hn : w.heap.size = n) : St W (w.alloc o) (R ++ [BlkT n o]) := by
  subst hn; exact h.alloc o

/-- A block that is let go again: it is nobody's. -/
theorem St.alloc_ {W w : World} {R : List Thing} (h : St W w R) (o : Obj) : St W (w.alloc o) R := h.same ((Fr.refl _ _).alloc o)

theorem St.setBlk {W w : World} {R : List Thing} (h : St W w R) (i : Nat) {b : Nat} {c : Array Value} {t : TypeId} {f : Nat × Nat} (hi : R[i]? = some (BlkT b (.cells c t f))) (k : Nat) (v : Value) :
    St W (w.setCell ⟨b, k, none⟩ v) (R.set i (BlkT b (.cells (c.setIfInBounds k v) t f))) := by
  obtain ⟨F, ⟨rfl, h1⟩, h2, h3⟩ := h.at i hi
  exact h3 _ [b] _ inferInstance ⟨rfl, blk_setCell_at _ h1⟩ ((Fr.refl _ _).setCell (.inl (by simp)) _) (fun x hx => .inl hx)

/-- A row of the call's own. -/
def RowT (e : TypeId) (size : Nat) (v : Value) (n : Nat) (xs : List Value) : Thing := fun w F => F = v.ownBlock.toList ∧ w.ownsRow 0 e size v n xs

theorem ownsRow_keep {S : List Nat} {w w' : World} {B e size n : Nat} {v : Value} {xs : List Value} (h : w.ownsRow B e size v n xs) (hF : Fr S w w') (hS : ∀ g, g ∈ v.ownBlock.toList → g ∉ S) : w'.ownsRow B e size v n xs := by
  obtain ⟨h1, h2⟩ := h
  refine ⟨h1, ?_⟩
  rcases h2 with h2 | ⟨g', cap', cur, hv, hg, hh, r⟩
  · exact .inl h2
  · subst hv
    exact Or.inr ⟨g', cap', cur, rfl, hg, hF.keep hh (hS g' (by simp [Value.ownBlock])), r⟩
theorem ownsRow_lt {w : World} {B e size n : Nat} {v : Value} {xs : List Value} (h : w.ownsRow B e size v n xs) : ∀ x, x ∈ v.ownBlock.toList → x < w.heap.size := by
  intro x hx
  obtain ⟨h1, h2⟩ := h
  rcases h2 with ⟨rfl, _⟩ | ⟨g', cap', cur, rfl, hg, hh, r⟩
  · simp [Value.ownBlock] at hx
  · simp [Value.ownBlock] at hx; subst hx; exact lt_of_block hh

instance (e : TypeId) (size : Nat) (v : Value) (n : Nat) (xs : List Value) : Loc (RowT e size v n xs) where
  keep := fun ⟨h1, h2⟩ hF hd => ⟨h1, ownsRow_keep h2 hF (fun g hg => hd g (by rw [h1]; exact hg))⟩
  lt := fun ⟨h1, h2⟩ x hx => ownsRow_lt h2 x (by rw [← h1]; exact hx)

theorem St.row {W w : World} {R : List Thing} (h : St W w R) (i : Nat) {e : TypeId} {size n : Nat} {v : Value} {xs : List Value} (hi : R[i]? = some (RowT e size v n xs)) : w.ownsRow 0 e size v n xs := by
  obtain ⟨F, ⟨_, h1⟩, _⟩ := h.get i hi; exact h1

end Go.Proofs.Ytkkahkgjedgjnaa
