/-
  Merged, in build order: Row Sep Sep2.
-/
import Derived.Laws.CopyOwn
import Derived.Deep.AppendSrc
import Derived.Test.YtkiccbjngokpjaaGreatM1
/-
  Rows that calls own: append, told with the block of its result: the old row's, or a new one. Of no program.
-/
namespace Go.Proofs.YtkiccbjngokpjaaGreat
open Go.RowKit
set_option linter.unusedVariables false
set_option linter.unusedSimpArgs false

theorem append_own_blk {P : Program} (w : World) (t ty e : TypeId) (i : TypeInfo) (z : Value) (size bytes : Nat) (ht : P.underlying t = some (.slice e)) (hi : P.info? e = some i) (hz : i.zero = some z)
    (hsize : i.size = size) (hby : i.bytes = bytes) (hzs : z.cells.size = size) (hsz : 0 < size)
    (v : Value) (n : Nat) (xs : List Value) (hown : w.ownsRow 0 e size v n xs)
    (a : Addr) (m c : Nat) (news : List Value) (hl : news.length = m * size) (hnews : ∀ j u, news[j]? = some u → w.cell? (a.add j) = some u) (h1 : ∀ u ∈ news, u.oneCell' = true)
    (h63 : n + m ≤ maxLen) (hbytes : (n + m) * bytes ≤ 140737488355328) :
    ∃ v' w', (Builtin.append_ #[t, t] ty #[v, .slice (some a) m c]).run P w = .ok v' w' ∧ w'.ownsRow 0 e size v' (n + m) (xs ++ news) ∧ w.grownBy w' v.ownBlock ∧
      (∀ x, x ∈ v'.ownBlock.toList → x ∈ v.ownBlock.toList ∨ w.heap.size ≤ x) ∧ (v' = .slice none 0 0 ↔ v = .slice none 0 0 ∧ m = 0) := by
  obtain ⟨v', w', hr, ho, hg, hn⟩ := run_append_own (P := P) w 0 t ty e i z size bytes ht hi hz hsize hby hzs hsz v n xs hown a m c news hl hnews h1 h63 hbytes (Nat.zero_le _)
  refine ⟨v', w', hr, ho, hg, ?_, hn⟩
  have hown' := hown
  obtain ⟨hxl, hown'⟩ := hown'
  have hm63 : n + m ≤ 9223372036854775807 := by unfold maxLen at h63; omega
  rcases hown' with ⟨rfl, rfl⟩ | ⟨g, cap, cur, rfl, _, hh, hle, hmx, hcs, htk⟩
  · by_cases hm : m = 0
    · have := hn.2 ⟨rfl, hm⟩
      subst this
      intro x hx; simp [Value.ownBlock] at hx
    · have h48 : m * i.bytes ≤ 281474976710656 := by rw [hby]; rw [Nat.zero_add] at hbytes; omega
      have hr2 := run_append_nil (P := P) w t ty e i z ht hi hz a m c news (by rw [hsize]; exact hl) hnews (by omega) (by omega) h48
      rw [hr] at hr2
      simp only [Result.ok.injEq] at hr2
      rw [hr2.1]
      intro x hx; simp [Value.ownBlock] at hx; right; omega
  · by_cases hroom : n + m ≤ cap
    · have hcells : ∀ j, j < cap * size → (w.cell? ⟨g, j, none⟩).isSome = true := fun j hj => by
        simp [World.cell?, hh, hcs, hj]
      have hfit : ∀ j, j < news.length → 0 + n * i.size + j < cap * size := fun j hj => by
        rw [hsize]
        have : (n + m) * size ≤ cap * size := Nat.mul_le_mul_right _ hroom
        rw [Nat.add_mul] at this; omega
      have hr2 := run_append_room_cells (P := P) w t ty e i ht hi g 0 n cap a m c news (by rw [hsize]; exact hl) hnews h1 hroom (fun j hj => hcells _ (hfit j hj)) (fun j hj => by simp [World.frozen?, hh])
      rw [hr] at hr2
      simp only [Result.ok.injEq] at hr2
      rw [hr2.1]
      intro x hx; left; exact hx
    · have hold : ∀ j u, xs[j]? = some u → w.cell? ((⟨g, 0, none⟩ : Addr).add j) = some u := hown.cells rfl
      have hr2 := run_append_grow (P := P) w t ty e i z ht hi hz ⟨g, 0, none⟩ n cap xs (by rw [hsize]; exact hxl) hold a m c news (by rw [hsize]; exact hl) hnews (by omega) (by omega) (growslice_fits (by omega) (by rw [hby]; exact hbytes))
      rw [hr] at hr2
      simp only [Result.ok.injEq] at hr2
      rw [hr2.1]
      intro x hx; simp [Value.ownBlock] at hx; right; omega

/-- append to a row of the call's own, for the walk. -/
theorem wpList_append_blk {P : Program} {w : World} {ops : Array Oper} {rest : List Oper} {o : Oper} {a : Act} {Q : Exit → Act → World → Prop} (hgd : o.guard = none) (s x : Operand) (t : TypeId)
    (ho : o.op = .call { callee := .builtin .append, args := #[s, x], argTypes := #[t, t] })
    (e : TypeId) (i : TypeInfo) (z : Value) (size bytes : Nat) (ht : P.underlying t = some (.slice e)) (hi : P.info? e = some i) (hz : i.zero = some z)
    (hsize : i.size = size) (hby : i.bytes = bytes) (hzs : z.cells.size = size) (hsz : 0 < size)
    (v : Value) (n : Nat) (xs : List Value) (hs : a.eval s = v) (hown : w.ownsRow 0 e size v n xs)
    (ad : Addr) (m c : Nat) (news : List Value) (hx : a.eval x = .slice (some ad) m c) (hl : news.length = m * size) (hnews : ∀ j u, news[j]? = some u → w.cell? (ad.add j) = some u) (h1 : ∀ u ∈ news, u.oneCell' = true)
    (h63 : n + m ≤ maxLen) (hbytes : (n + m) * bytes ≤ 140737488355328)
    (h : ∀ v' w', w'.ownsRow 0 e size v' (n + m) (xs ++ news) → Fr v.ownBlock.toList w w' → (∀ x, x ∈ v'.ownBlock.toList → x ∈ v.ownBlock.toList ∨ w.heap.size ≤ x) → (v' = .slice none 0 0 ↔ v = .slice none 0 0 ∧ m = 0) → wpList P ops Q rest (a.put o.dst v') w') : wpList P ops Q (o :: rest) a w := by
  refine wpList_plain hgd fun K hK => ?_
  obtain ⟨v', w', hr, h2, h3, h4, h5⟩ := append_own_blk (P := P) w t o.type e i z size bytes ht hi hz hsize hby hzs hsz v n xs hown ad m c news hl hnews h1 h63 hbytes
  have hF : Fr v.ownBlock.toList w w' := (Fr.refl _ w).grown h3 (fun k hk => .inl (by simp [hk]))
  unfold Oper.wp execOp
  simp only [ho, resolve, invoke, builtin, Sem.run_bind, Sem.run_pure, Result.andThen_ok, List.map_toArray, List.map_cons, List.map_nil, hs, hx, hr]
  exact hK _ _ (h v' w' h2 hF h4 h5)

/-- The same, as a step of a region that draws its order. -/
theorem step_append_blk {P : Program} {ops : Array Oper} {w : World} {o : Oper} {a : Act} {K : Act → World → Prop} {Q : Exit → Act → World → Prop} {E : Prop} (hgd : o.guard = none) (s x : Operand) (t : TypeId)
    (ho : o.op = .call { callee := .builtin .append, args := #[s, x], argTypes := #[t, t] })
    (e : TypeId) (i : TypeInfo) (z : Value) (size bytes : Nat) (ht : P.underlying t = some (.slice e)) (hi : P.info? e = some i) (hz : i.zero = some z)
    (hsize : i.size = size) (hby : i.bytes = bytes) (hzs : z.cells.size = size) (hsz : 0 < size)
    (v : Value) (n : Nat) (xs : List Value) (hs : a.eval s = v) (hown : w.ownsRow 0 e size v n xs)
    (ad : Addr) (m c : Nat) (news : List Value) (hx : a.eval x = .slice (some ad) m c) (hl : news.length = m * size) (hnews : ∀ j u, news[j]? = some u → w.cell? (ad.add j) = some u) (h1 : ∀ u ∈ news, u.oneCell' = true)
    (h63 : n + m ≤ maxLen) (hbytes : (n + m) * bytes ≤ 140737488355328)
    (h : ∀ v' w', w'.ownsRow 0 e size v' (n + m) (xs ++ news) → Fr v.ownBlock.toList w w' → (∀ x, x ∈ v'.ownBlock.toList → x ∈ v.ownBlock.toList ∨ w.heap.size ≤ x) → (v' = .slice none 0 0 ↔ v = .slice none 0 0 ∧ m = 0) → K (a.put o.dst v') w') :
    if Region.wanted o (yielded ops a.tmps) = true then Oper.wp P o a w K Q else E := by
  have hw : Region.wanted o (yielded ops a.tmps) = true := by simp [Region.wanted, hgd]
  rw [if_pos hw]
  obtain ⟨v', w', hr, h2, h3, h4, h5⟩ := append_own_blk (P := P) w t o.type e i z size bytes ht hi hz hsize hby hzs hsz v n xs hown ad m c news hl hnews h1 h63 hbytes
  have hF : Fr v.ownBlock.toList w w' := (Fr.refl _ w).grown h3 (fun k hk => .inl (by simp [hk]))
  unfold Oper.wp execOp
  simp only [ho, resolve, invoke, builtin, Sem.run_bind, Sem.run_pure, Result.andThen_ok, List.map_toArray, List.map_cons, List.map_nil, hs, hx, hr]
  exact h v' w' h2 hF h4 h5

end Go.Proofs.YtkiccbjngokpjaaGreat

/-
  Things in memory, each by itself: a world that holds a list of them, and all that was there at first. Of no program.
-/
namespace Go.Proofs.YtkiccbjngokpjaaGreat
open Go.RowKit
set_option linter.unusedVariables false
set_option linter.unusedSimpArgs false

/-- A thing in memory: its blocks, and those that it reads alone. -/
abbrev Thing := World → List Nat → List Nat → Prop

/-- It speaks of its blocks alone. -/
class Loc (A : Thing) : Prop where
  keep : ∀ {w w' : World} {F G S : List Nat}, A w F G → Fr S w w' → (∀ x, x ∈ F → x ∉ S) → (∀ x, x ∈ G → x ∉ S) → A w' F G
  lt : ∀ {w : World} {F G : List Nat}, A w F G → (∀ x, x ∈ F → x < w.heap.size) ∧ ∀ x, x ∈ G → x < w.heap.size

/-- Where a list of things begins: a world, its blocks that may be written, its blocks that may be read by things. -/
structure Base where
  w : World
  s : List Nat
  g : List Nat
abbrev Base.of (w : World) : Base := ⟨w, [], []⟩

/-- All that was there at W (but W.s) is as it was; the things of R stand, each by itself, in new blocks (or W.s). -/
structure St (W : Base) (w : World) (R : List Thing) : Prop where
  fr : Fr W.s W.w w
  ex : ∃ Fs Gs : Nat → List Nat, (∀ (i : Nat) (A : Thing), R[i]? = some A → A w (Fs i) (Gs i) ∧ Loc A ∧ (∀ x, x ∈ Fs i → x ∈ W.s ∨ W.w.heap.size ≤ x) ∧ ∀ x, x ∈ Gs i → x ∈ W.s ∨ x ∈ W.g ∨ W.w.heap.size ≤ x) ∧
    (∀ i j : Nat, i < R.length → j < R.length → i ≠ j → ∀ x, x ∈ Fs i → x ∉ Fs j) ∧ (∀ i j : Nat, i < R.length → j < R.length → ∀ x, x ∈ Fs i → x ∉ Gs j)

theorem St.refl (W : World) : St (.of W) W [] := ⟨Fr.refl _ _, fun _ => [], fun _ => [], by simp, by simp, by simp⟩

theorem St.same {W : Base} {w w' : World} {R : List Thing} (h : St W w R) (hF : Fr [] w w') : St W w' R := by
  obtain ⟨h1, Fs, Gs, h2, h3, h4⟩ := h
  refine ⟨h1.step hF (by simp), Fs, Gs, fun i A hA => ?_, h3, h4⟩
  obtain ⟨k1, k2, k3⟩ := h2 i A hA
  exact ⟨k2.keep k1 hF (by simp) (by simp), k2, k3⟩

theorem St.drew {W : Base} {w : World} {R : List Thing} (h : St W w R) : St W w.drew R := h.same ((Fr.refl _ _).drew)
theorem St.drewN {W : Base} {w : World} {R : List Thing} (h : St W w R) (n : Nat) : St W (w.drewN n) R := h.same ((Fr.refl _ _).drewN n)

/-- A frame over things that lie behind W. -/
theorem Fr.behind {W : Base} {w w' : World} {F : List Nat} (h : Fr W.s W.w w) (hF : Fr F w w') (hb : ∀ x, x ∈ F → x ∈ W.s ∨ W.w.heap.size ≤ x) : Fr W.s W.w w' := h.step hF hb

theorem lt_of_get {R : List Thing} {i : Nat} {A : Thing} (h : R[i]? = some A) : i < R.length := (List.getElem?_eq_some_iff.1 h).1

/-- One of the things: it stands, and may be changed. -/
theorem St.atG {W : Base} {w : World} {R : List Thing} (h : St W w R) (i : Nat) {A : Thing} (hi : R[i]? = some A) :
    ∃ F G, A w F G ∧ (∀ x, x ∈ F → x ∈ W.s ∨ W.w.heap.size ≤ x) ∧ (∀ x, x ∈ F → x ∉ G) ∧ ∀ (w' : World) (F' G' : List Nat) (A' : Thing), Loc A' → A' w' F' G' → Fr F w w' → (∀ x, x ∈ F' → x ∈ F ∨ w.heap.size ≤ x) →
      (∀ x, x ∈ G' → x ∈ F ∨ x ∈ G ∨ w.heap.size ≤ x) → (∀ x, x ∈ F' → x ∉ G') → St W w' (R.set i A') := by
  obtain ⟨h1, Fs, Gs, h2, h3, h4⟩ := h
  have hlt := lt_of_get hi
  obtain ⟨k1, k2, k3, k4⟩ := h2 i A hi
  have hold : ∀ j, j < R.length → (∀ x, x ∈ Fs j → x < w.heap.size) ∧ ∀ x, x ∈ Gs j → x < w.heap.size := fun j hj => by
    obtain ⟨q1, q2, _⟩ := h2 j _ (List.getElem?_eq_getElem hj)
    exact q2.lt q1
  refine ⟨Fs i, Gs i, k1, k3, h4 i i hlt hlt, fun w' F' G' A' hL hA' hFr hF' hG' hd => ⟨h1.behind hFr k3, fun j => if j = i then F' else Fs j, fun j => if j = i then G' else Gs j, fun j B hB => ?_, fun j k hj hk hjk x hx hxk => ?_, fun j k hj hk x hx hxk => ?_⟩⟩
  · by_cases hij : j = i
    · subst hij
      rw [List.getElem?_set_self hlt] at hB
      cases hB
      simp only [if_pos]
      refine ⟨hA', hL, fun x hx => ?_, fun x hx => ?_⟩
      · rcases hF' x hx with h | h
        · exact k3 x h
        · exact .inr (Nat.le_trans h1.size h)
      · rcases hG' x hx with h | h | h
        · exact (k3 x h).imp id .inr
        · exact k4 x h
        · exact .inr (.inr (Nat.le_trans h1.size h))
    · rw [List.getElem?_set_ne (fun e => hij e.symm)] at hB
      simp only [if_neg hij]
      obtain ⟨q1, q2, q3⟩ := h2 j B hB
      have hj := lt_of_get hB
      exact ⟨q2.keep q1 hFr (fun x hx hxF => h3 j i hj hlt hij x hx hxF) (fun x hx hxF => h4 i j hlt hj x hxF hx), q2, q3⟩
  · rw [List.length_set] at hj hk
    by_cases hij : j = i
    · have hik : ¬ k = i := fun e => hjk (hij.trans e.symm)
      simp only [if_pos hij] at hx
      simp only [if_neg hik] at hxk
      rcases hF' x hx with h | h
      · exact h3 i k hlt hk (fun e => hik e.symm) x h hxk
      · have := (hold k hk).1 x hxk; omega
    · simp only [if_neg hij] at hx
      by_cases hik : k = i
      · simp only [if_pos hik] at hxk
        rcases hF' x hxk with h | h
        · exact h3 j i hj hlt hij x hx h
        · have := (hold j hj).1 x hx; omega
      · simp only [if_neg hik] at hxk
        exact h3 j k hj hk hjk x hx hxk
  · rw [List.length_set] at hj hk
    by_cases hij : j = i
    · simp only [if_pos hij] at hx
      by_cases hik : k = i
      · simp only [if_pos hik] at hxk
        exact hd x hx hxk
      · simp only [if_neg hik] at hxk
        rcases hF' x hx with h | h
        · exact h4 i k hlt hk x h hxk
        · have := (hold k hk).2 x hxk; omega
    · simp only [if_neg hij] at hx
      by_cases hik : k = i
      · simp only [if_pos hik] at hxk
        rcases hG' x hxk with h | h | h
        · exact h3 j i hj hlt hij x hx h
        · exact h4 j i hj hlt x hx h
        · have := (hold j hj).1 x hx; omega
      · simp only [if_neg hik] at hxk
        exact h4 j k hj hk x hx hxk

theorem things_set_self {R : List Thing} {i : Nat} {A : Thing} (h : R[i]? = some A) : R.set i A = R := by
  refine List.ext_getElem? fun j => ?_
  rw [List.getElem?_set]
  by_cases hij : i = j
  · subst hij; rw [if_pos rfl, if_pos (lt_of_get h), h]
  · rw [if_neg hij]
theorem St.set_self {W : Base} {w : World} {R : List Thing} (h : St W w R) {i : Nat} {A : Thing} (hi : R[i]? = some A) : St W w (R.set i A) := by
  rw [things_set_self hi]; exact h

/-- One of them, which is read. -/
theorem St.getG {W : Base} {w : World} {R : List Thing} (h : St W w R) (i : Nat) {A : Thing} (hi : R[i]? = some A) : ∃ F G, A w F G := by
  obtain ⟨F, G, h1, _⟩ := h.atG i hi; exact ⟨F, G, h1⟩

/-- A thing more, which may read what is new, what may be read of W, and what another one of the things reads. -/
theorem St.newOf {W : Base} {w : World} {R : List Thing} (h : St W w R) {w' : World} {F G : List Nat} {A : Thing} (hF : Fr [] w w') (hL : Loc A) (hA : A w' F G) (hn : ∀ x, x ∈ F → w.heap.size ≤ x)
    (hG : ∀ x, x ∈ G → w.heap.size ≤ x ∨ (x ∈ W.g ∧ x < W.w.heap.size ∧ x ∉ W.s) ∨ ∃ (i : Nat) (B : Thing), R[i]? = some B ∧ ∀ F' G', B w F' G' → x ∈ G') (hd : ∀ x, x ∈ F → x ∉ G) : St W w' (R ++ [A]) := by
  have hs := h.fr.size
  have h0 := h
  obtain ⟨_, Fs, Gs, h2, h3, h4⟩ := h
  have hold : ∀ j, j < R.length → (∀ x, x ∈ Fs j → x < w.heap.size ∧ (x ∈ W.s ∨ W.w.heap.size ≤ x)) ∧ ∀ x, x ∈ Gs j → x < w.heap.size := fun j hj => by
    obtain ⟨q1, q2, q3, _⟩ := h2 j _ (List.getElem?_eq_getElem hj)
    exact ⟨fun x hx => ⟨(q2.lt q1).1 x hx, q3 x hx⟩, (q2.lt q1).2⟩
  refine ⟨(h0.same hF).fr, fun j => if j = R.length then F else Fs j, fun j => if j = R.length then G else Gs j, fun i B hB => ?_, fun i j hi hj hij x hx hxk => ?_, fun i j hi hj x hx hxk => ?_⟩
  · by_cases hi : i < R.length
    · rw [List.getElem?_append_left hi] at hB
      simp only [if_neg (show ¬ i = R.length by omega)]
      obtain ⟨q1, q2, q3⟩ := h2 i B hB
      exact ⟨q2.keep q1 hF (by simp) (by simp), q2, q3⟩
    · have hi' : i = R.length := by have := lt_of_get hB; simp at this; omega
      subst hi'
      simp at hB
      subst hB
      simp only [if_pos]
      refine ⟨hA, hL, fun x hx => .inr (by have := hn x hx; omega), fun x hx => ?_⟩
      rcases hG x hx with h | ⟨h, _⟩ | ⟨j, B, hj, hB⟩
      · exact .inr (.inr (by omega))
      · exact .inr (.inl h)
      · obtain ⟨q1, _, _, q4⟩ := h2 j B hj
        exact q4 x (hB _ _ q1)
  · simp only [List.length_append, List.length_singleton] at hi hj
    by_cases h5 : i = R.length
    · simp only [if_pos h5] at hx
      simp only [if_neg (show ¬ j = R.length by omega)] at hxk
      have := ((hold j (by omega)).1 x hxk).1
      have := hn x hx
      omega
    · simp only [if_neg h5] at hx
      by_cases h6 : j = R.length
      · simp only [if_pos h6] at hxk
        have := ((hold i (by omega)).1 x hx).1
        have := hn x hxk
        omega
      · simp only [if_neg h6] at hxk
        exact h3 i j (by omega) (by omega) hij x hx hxk
  · simp only [List.length_append, List.length_singleton] at hi hj
    by_cases h5 : i = R.length
    · simp only [if_pos h5] at hx
      by_cases h6 : j = R.length
      · simp only [if_pos h6] at hxk
        exact hd x hx hxk
      · simp only [if_neg h6] at hxk
        have := (hold j (by omega)).2 x hxk
        have := hn x hx
        omega
    · simp only [if_neg h5] at hx
      by_cases h6 : j = R.length
      · simp only [if_pos h6] at hxk
        have h7 := (hold i (by omega)).1 x hx
        rcases hG x hxk with h | ⟨h, hlt, hns⟩ | ⟨k, B, hk, hB⟩
        · omega
        · rcases h7.2 with h8 | h8
          · exact hns h8
          · omega
        · exact h4 i k (by omega) (lt_of_get hk) x hx (hB _ _ (h2 k B hk).1)
      · simp only [if_neg h6] at hxk
        exact h4 i j (by omega) (by omega) x hx hxk

/-- Two of the things by themselves: what a call does to them leaves the others. -/
theorem St.two {W : Base} {w : World} {R : List Thing} (h : St W w R) {i j : Nat} {A B : Thing} (hi : R[i]? = some A) (hj : R[j]? = some B) (hij : i ≠ j) :
    ∃ V : Base, V.w = w ∧ St V w [A, B] ∧ ∀ (w' : World) (A' B' : Thing), St V w' [A', B'] → St W w' ((R.set i A').set j B') := by
  obtain ⟨h1, Fs, Gs, h2, h3, h4⟩ := h
  have hil := lt_of_get hi
  have hjl := lt_of_get hj
  have hold : ∀ j, j < R.length → (∀ x, x ∈ Fs j → x < w.heap.size) ∧ ∀ x, x ∈ Gs j → x < w.heap.size := fun j hj => by
    obtain ⟨q1, q2, _⟩ := h2 j _ (List.getElem?_eq_getElem hj)
    exact q2.lt q1
  obtain ⟨a1, a2, a3, a4⟩ := h2 i A hi
  obtain ⟨b1, b2, b3, b4⟩ := h2 j B hj
  refine ⟨⟨w, Fs i ++ Fs j, Gs i ++ Gs j⟩, rfl, ⟨Fr.refl _ _, fun k => if k = 0 then Fs i else Fs j, fun k => if k = 0 then Gs i else Gs j, fun k C hC => ?_, fun k l hk hl hkl => ?_, fun k l hk hl => ?_⟩, fun w' A' B' h' => ?_⟩
  · match k, hC with
    | 0, hC => simp at hC; subst hC; exact ⟨a1, a2, fun x hx => .inl (List.mem_append.2 (.inl hx)), fun x hx => .inr (.inl (List.mem_append.2 (.inl hx)))⟩
    | 1, hC => simp at hC; subst hC; exact ⟨b1, b2, fun x hx => .inl (List.mem_append.2 (.inr hx)), fun x hx => .inr (.inl (List.mem_append.2 (.inr hx)))⟩
  · simp only [List.length_cons, List.length_nil] at hk hl
    obtain rfl | rfl : k = 0 ∨ k = 1 := by omega
    · obtain rfl : l = 1 := by omega
      exact h3 i j hil hjl hij
    · obtain rfl : l = 0 := by omega
      exact h3 j i hjl hil hij.symm
  · simp only [List.length_cons, List.length_nil] at hk hl
    obtain rfl | rfl : k = 0 ∨ k = 1 := by omega
    · obtain rfl | rfl : l = 0 ∨ l = 1 := by omega
      · exact h4 i i hil hil
      · exact h4 i j hil hjl
    · obtain rfl | rfl : l = 0 ∨ l = 1 := by omega
      · exact h4 j i hjl hil
      · exact h4 j j hjl hjl
  · obtain ⟨f1, Ps, Qs, f2, f3, f4⟩ := h'
    obtain ⟨c1, c2, c3, c4⟩ := f2 0 A' rfl
    obtain ⟨d1, d2, d3, d4⟩ := f2 1 B' rfl
    have hf : ∀ x, x ∈ Fs i ++ Fs j → x ∈ W.s ∨ W.w.heap.size ≤ x := fun x hx => by
      rcases List.mem_append.1 hx with h | h
      · exact a3 x h
      · exact b3 x h
    have hg : ∀ x, x ∈ Gs i ++ Gs j → x ∈ W.s ∨ x ∈ W.g ∨ W.w.heap.size ≤ x := fun x hx => by
      rcases List.mem_append.1 hx with h | h
      · exact a4 x h
      · exact b4 x h
    have hother : ∀ k, k < R.length → k ≠ i → k ≠ j → (∀ x, x ∈ Fs k → x ∉ Fs i ++ Fs j ∧ x ∉ Gs i ++ Gs j) ∧ ∀ x, x ∈ Gs k → x ∉ Fs i ++ Fs j := fun k hk hki hkj =>
      ⟨fun x hx => ⟨fun h => (List.mem_append.1 h).elim (h3 k i hk hil hki x hx) (h3 k j hk hjl hkj x hx), fun h => (List.mem_append.1 h).elim (h4 k i hk hil x hx) (h4 k j hk hjl x hx)⟩,
        fun x hx h => (List.mem_append.1 h).elim (fun h => h4 i k hil hk x h hx) (fun h => h4 j k hjl hk x h hx)⟩
    have hnew : ∀ x, x ∈ Fs i ++ Fs j ∨ w.heap.size ≤ x → x ∈ W.s ∨ W.w.heap.size ≤ x := fun x hx => hx.elim (hf x) (fun h => .inr (Nat.le_trans h1.size h))
    have hnewG : ∀ x, x ∈ Fs i ++ Fs j ∨ x ∈ Gs i ++ Gs j ∨ w.heap.size ≤ x → x ∈ W.s ∨ x ∈ W.g ∨ W.w.heap.size ≤ x := fun x hx => by
      rcases hx with h | h | h
      · exact (hf x h).imp id .inr
      · exact hg x h
      · exact .inr (.inr (Nat.le_trans h1.size h))
    have key : ∀ k, k < R.length → k ≠ i → k ≠ j → (∀ x, x ∈ Fs k → (x ∉ Ps 0 ∧ x ∉ Ps 1) ∧ x ∉ Qs 0 ∧ x ∉ Qs 1) ∧ ∀ x, x ∈ Gs k → x ∉ Ps 0 ∧ x ∉ Ps 1 := fun k hk hki hkj => by
      obtain ⟨o1, o2⟩ := hother k hk hki hkj
      obtain ⟨p1, p2⟩ := hold k hk
      have hP : ∀ x, x < w.heap.size → x ∉ Fs i ++ Fs j → x ∉ Ps 0 ∧ x ∉ Ps 1 := fun x hx hn => ⟨fun h => (c3 x h).elim hn (fun h => absurd hx (Nat.not_lt.2 h)), fun h => (d3 x h).elim hn (fun h => absurd hx (Nat.not_lt.2 h))⟩
      refine ⟨fun x hx => ⟨hP x (p1 x hx) (o1 x hx).1, fun h => ?_, fun h => ?_⟩, fun x hx => hP x (p2 x hx) (o2 x hx)⟩
      · rcases c4 x h with h | h | h
        · exact (o1 x hx).1 h
        · exact (o1 x hx).2 h
        · exact absurd (p1 x hx) (Nat.not_lt.2 h)
      · rcases d4 x h with h | h | h
        · exact (o1 x hx).1 h
        · exact (o1 x hx).2 h
        · exact absurd (p1 x hx) (Nat.not_lt.2 h)
    refine ⟨h1.behind f1 hf, fun k => if k = i then Ps 0 else if k = j then Ps 1 else Fs k, fun k => if k = i then Qs 0 else if k = j then Qs 1 else Gs k, fun k C hC => ?_, fun k l hk hl hkl x hx hxl => ?_, fun k l hk hl x hx hxl => ?_⟩
    · have hkl := lt_of_get hC
      simp only [List.length_set] at hkl
      rw [List.getElem?_set] at hC
      by_cases hkj : j = k
      · subst hkj
        rw [if_pos rfl, if_pos (by simpa using hjl)] at hC
        cases hC
        simp only [if_neg hij.symm, if_pos]
        exact ⟨d1, d2, fun x hx => hnew x (d3 x hx), fun x hx => hnewG x (d4 x hx)⟩
      · rw [if_neg hkj, List.getElem?_set] at hC
        by_cases hki : i = k
        · subst hki
          rw [if_pos rfl, if_pos hil] at hC
          cases hC
          simp only [if_pos]
          exact ⟨c1, c2, fun x hx => hnew x (c3 x hx), fun x hx => hnewG x (c4 x hx)⟩
        · rw [if_neg hki] at hC
          simp only [if_neg (Ne.symm hki), if_neg (Ne.symm hkj)]
          obtain ⟨q1, q2, q3⟩ := h2 k C hC
          obtain ⟨o1, o2⟩ := hother k hkl (Ne.symm hki) (Ne.symm hkj)
          exact ⟨q2.keep q1 f1 (fun x hx => (o1 x hx).1) o2, q2, q3⟩
    · simp only [List.length_set] at hk hl
      by_cases hki : k = i
      · simp only [if_pos hki] at hx
        by_cases hlj : l = j
        · have hli : ¬ l = i := fun e => hkl (hki.trans e.symm)
          simp only [if_neg hli, if_pos hlj] at hxl
          exact f3 0 1 (by simp) (by simp) (by simp) x hx hxl
        · have hli : ¬ l = i := fun e => hkl (hki.trans e.symm)
          simp only [if_neg hli, if_neg hlj] at hxl
          exact ((key l hl hli hlj).1 x hxl).1.1 hx
      · by_cases hkj : k = j
        · simp only [if_neg hki, if_pos hkj] at hx
          by_cases hli : l = i
          · simp only [if_pos hli] at hxl
            exact f3 0 1 (by simp) (by simp) (by simp) x hxl hx
          · have hlj : ¬ l = j := fun e => hkl (hkj.trans e.symm)
            simp only [if_neg hli, if_neg hlj] at hxl
            exact ((key l hl hli hlj).1 x hxl).1.2 hx
        · simp only [if_neg hki, if_neg hkj] at hx
          have kk := (key k hk hki hkj).1 x hx
          by_cases hli : l = i
          · simp only [if_pos hli] at hxl
            exact kk.1.1 hxl
          · by_cases hlj : l = j
            · simp only [if_neg hli, if_pos hlj] at hxl
              exact kk.1.2 hxl
            · simp only [if_neg hli, if_neg hlj] at hxl
              exact h3 k l hk hl hkl x hx hxl
    · simp only [List.length_set] at hk hl
      by_cases hki : k = i
      · simp only [if_pos hki] at hx
        by_cases hli : l = i
        · simp only [if_pos hli] at hxl
          exact f4 0 0 (by simp) (by simp) x hx hxl
        · by_cases hlj : l = j
          · simp only [if_neg hli, if_pos hlj] at hxl
            exact f4 0 1 (by simp) (by simp) x hx hxl
          · simp only [if_neg hli, if_neg hlj] at hxl
            exact ((key l hl hli hlj).2 x hxl).1 hx
      · by_cases hkj : k = j
        · simp only [if_neg hki, if_pos hkj] at hx
          by_cases hli : l = i
          · simp only [if_pos hli] at hxl
            exact f4 1 0 (by simp) (by simp) x hx hxl
          · by_cases hlj : l = j
            · simp only [if_neg hli, if_pos hlj] at hxl
              exact f4 1 1 (by simp) (by simp) x hx hxl
            · simp only [if_neg hli, if_neg hlj] at hxl
              exact ((key l hl hli hlj).2 x hxl).2 hx
        · simp only [if_neg hki, if_neg hkj] at hx
          have kk := (key k hk hki hkj).1 x hx
          by_cases hli : l = i
          · simp only [if_pos hli] at hxl
            exact kk.2.1 hxl
          · by_cases hlj : l = j
            · simp only [if_neg hli, if_pos hlj] at hxl
              exact kk.2.2 hxl
            · simp only [if_neg hli, if_neg hlj] at hxl
              exact h4 k l hk hl x hx hxl

/-- Some of them, in another order. -/
theorem St.pick {W : Base} {w : World} {R R' : List Thing} (h : St W w R) (l : List Nat) (hd : l.Nodup) (hl : R'.length = l.length) (hR : ∀ (k i : Nat), l[k]? = some i → R'[k]? = R[i]?) : St W w R' := by
  obtain ⟨h1, Fs, Gs, h2, h3, h4⟩ := h
  have hin : ∀ k, k < R'.length → ∃ i, l[k]? = some i ∧ i < R.length ∧ l.getD k 0 = i := fun k hk => by
    have hkl : k < l.length := by omega
    refine ⟨l[k], List.getElem?_eq_getElem hkl, ?_, by simp [List.getD, hkl]⟩
    have h5 := hR k l[k] (List.getElem?_eq_getElem hkl)
    rw [List.getElem?_eq_getElem hk] at h5
    exact lt_of_get h5.symm
  refine ⟨h1, fun k => Fs (l.getD k 0), fun k => Gs (l.getD k 0), fun k A hA => ?_, fun j k hj hk hjk => ?_, fun j k hj hk => ?_⟩
  · obtain ⟨i, hi, hlt, e⟩ := hin k (lt_of_get hA)
    rw [hR k i hi] at hA
    simp only [e]
    exact h2 i A hA
  · obtain ⟨i, hi, hlt, e⟩ := hin j hj
    obtain ⟨m, hm, hlm, e'⟩ := hin k hk
    simp only [e, e']
    refine h3 i m hlt hlm (fun e2 => hjk ?_)
    subst e2
    exact (List.getElem?_inj (List.getElem?_eq_some_iff.1 hi).1 hd).1 (hi.trans hm.symm)
  · obtain ⟨i, hi, hlt, e⟩ := hin j hj
    obtain ⟨m, hm, hlm, e'⟩ := hin k hk
    simp only [e, e']
    exact h4 i m hlt hlm

/-- The first n of them. -/
theorem St.take {W : Base} {w : World} {R : List Thing} (h : St W w R) (n : Nat) : St W w (R.take n) := by
  refine h.pick (List.range (R.take n).length) List.nodup_range (by simp) fun k i hk => ?_
  have hk1 := (List.getElem?_eq_some_iff.1 hk).1
  rw [List.getElem?_range (by simpa using hk1)] at hk
  cases hk
  rw [List.length_range, List.length_take] at hk1
  rw [List.getElem?_take_of_lt (by omega)]

/-! ### Things that read nothing but their own -/
abbrev Thing1 := World → List Nat → Prop
class Loc1 (A : Thing1) : Prop where
  keep : ∀ {w w' : World} {F S : List Nat}, A w F → Fr S w w' → (∀ x, x ∈ F → x ∉ S) → A w' F
  lt : ∀ {w : World} {F : List Nat}, A w F → ∀ x, x ∈ F → x < w.heap.size
def own (A : Thing1) : Thing := fun w F G => G = [] ∧ A w F
instance (A : Thing1) [h : Loc1 A] : Loc (own A) where
  keep := fun ⟨h1, h2⟩ hF hd _ => ⟨h1, h.keep h2 hF hd⟩
  lt := fun ⟨h1, h2⟩ => ⟨h.lt h2, by subst h1; simp⟩

theorem St.at {W : Base} {w : World} {R : List Thing} (h : St W w R) (i : Nat) {A : Thing1} (hi : R[i]? = some (own A)) :
    ∃ F, A w F ∧ (∀ x, x ∈ F → x ∈ W.s ∨ W.w.heap.size ≤ x) ∧ ∀ (w' : World) (F' : List Nat) (A' : Thing1), Loc1 A' → A' w' F' → Fr F w w' → (∀ x, x ∈ F' → x ∈ F ∨ w.heap.size ≤ x) → St W w' (R.set i (own A')) := by
  obtain ⟨F, G, ⟨rfl, h1⟩, h2, h3, h4⟩ := h.atG i hi
  exact ⟨F, h1, h2, fun w' F' A' hL hA' hFr hs => h4 w' F' [] (own A') inferInstance ⟨rfl, hA'⟩ hFr hs (by simp) (by simp)⟩

theorem St.get {W : Base} {w : World} {R : List Thing} (h : St W w R) (i : Nat) {A : Thing1} (hi : R[i]? = some (own A)) : ∃ F, A w F ∧ (∀ x, x ∈ F → x ∈ W.s ∨ W.w.heap.size ≤ x) := by
  obtain ⟨F, h1, h2, _⟩ := h.at i hi; exact ⟨F, h1, h2⟩

theorem St.new {W : Base} {w w' : World} {R : List Thing} {A : Thing1} {F : List Nat} (h : St W w R) (hF : Fr [] w w') (hL : Loc1 A) (hA : A w' F) (hn : ∀ x, x ∈ F → w.heap.size ≤ x) : St W w' (R ++ [own A]) :=
  h.newOf hF inferInstance ⟨rfl, hA⟩ hn (by simp) (by simp)

/-! ### A block; a row -/
/-- A block, whole. -/
def Blk1 (b : Nat) (o : Obj) : Thing1 := fun w F => F = [b] ∧ w.heap[b]? = some o
def BlkT (b : Nat) (o : Obj) : Thing := own (Blk1 b o)
instance (b : Nat) (o : Obj) : Loc1 (Blk1 b o) where
  keep := fun ⟨h1, h2⟩ hF hd => ⟨h1, hF.keep h2 (hd b (by simp [h1]))⟩
  lt := fun ⟨h1, h2⟩ x hx => by subst h1; simp at hx; subst hx; exact lt_of_block h2

theorem St.blk {W : Base} {w : World} {R : List Thing} (h : St W w R) (i : Nat) {b : Nat} {o : Obj} (hi : R[i]? = some (BlkT b o)) : w.heap[b]? = some o := by
  obtain ⟨F, ⟨_, h1⟩, _⟩ := h.get i hi; exact h1

theorem St.alloc {W : Base} {w : World} {R : List Thing} (h : St W w R) (o : Obj) : St W (w.alloc o) (R ++ [BlkT w.heap.size o]) :=
  h.new ((Fr.refl _ _).alloc o) inferInstance ⟨rfl, blk_alloc_at _ _ _ rfl⟩ (by simp)

theorem St.allocAt {W : Base} {w : World} {R : List Thing} (h : St W w R) (o : Obj) (n : Nat) (hn : w.heap.size = n) : St W (w.alloc o) (R ++ [BlkT n o]) := by
  subst hn; exact h.alloc o

/-- A block that is let go again: it is nobody's. -/
theorem St.alloc_ {W : Base} {w : World} {R : List Thing} (h : St W w R) (o : Obj) : St W (w.alloc o) R := h.same ((Fr.refl _ _).alloc o)

theorem St.setBlk {W : Base} {w : World} {R : List Thing} (h : St W w R) (i : Nat) {b : Nat} {c : Array Value} {t : TypeId} {f : Nat × Nat} (hi : R[i]? = some (BlkT b (.cells c t f))) (k : Nat) (v : Value) :
    St W (w.setCell ⟨b, k, none⟩ v) (R.set i (BlkT b (.cells (c.setIfInBounds k v) t f))) := by
  obtain ⟨F, ⟨rfl, h1⟩, h2, h3⟩ := h.at i hi
  exact h3 _ [b] _ inferInstance ⟨rfl, blk_setCell_at _ h1⟩ ((Fr.refl _ _).setCell (.inl (by simp)) _) (fun x hx => .inl hx)

/-- A row of the call's own. -/
def Row1 (e : TypeId) (size : Nat) (v : Value) (n : Nat) (xs : List Value) : Thing1 := fun w F => F = v.ownBlock.toList ∧ w.ownsRow 0 e size v n xs
def RowT (e : TypeId) (size : Nat) (v : Value) (n : Nat) (xs : List Value) : Thing := own (Row1 e size v n xs)

theorem ownsRow_keep {S : List Nat} {w w' : World} {B e size n : Nat} {v : Value} {xs : List Value} (h : w.ownsRow B e size v n xs) (hF : Fr S w w') (hS : ∀ g, g ∈ v.ownBlock.toList → g ∉ S) : w'.ownsRow B e size v n xs := by
  obtain ⟨h1, h2⟩ := h
  refine ⟨h1, ?_⟩
  rcases h2 with h2 | ⟨g', cap', cur, hv, hg, hh, r⟩
  · exact .inl h2
  · subst hv
    exact Or.inr ⟨g', cap', cur, rfl, hg, hF.keep hh (hS g' (by simp [Value.ownBlock])), r⟩
theorem ownsRow_lt {w : World} {B e size n : Nat} {v : Value} {xs : List Value} (h : w.ownsRow B e size v n xs) : ∀ x, x ∈ v.ownBlock.toList → x < w.heap.size := by
  intro x hx
  obtain ⟨h1, h2⟩ := h
  rcases h2 with ⟨rfl, _⟩ | ⟨g', cap', cur, rfl, hg, hh, r⟩
  · simp [Value.ownBlock] at hx
  · simp [Value.ownBlock] at hx; subst hx; exact lt_of_block hh

instance (e : TypeId) (size : Nat) (v : Value) (n : Nat) (xs : List Value) : Loc1 (Row1 e size v n xs) where
  keep := fun ⟨h1, h2⟩ hF hd => ⟨h1, ownsRow_keep h2 hF (fun g hg => hd g (by rw [h1]; exact hg))⟩
  lt := fun ⟨h1, h2⟩ x hx => ownsRow_lt h2 x (by rw [← h1]; exact hx)

theorem St.row {W : Base} {w : World} {R : List Thing} (h : St W w R) (i : Nat) {e : TypeId} {size n : Nat} {v : Value} {xs : List Value} (hi : R[i]? = some (RowT e size v n xs)) : w.ownsRow 0 e size v n xs := by
  obtain ⟨F, ⟨_, h1⟩, _⟩ := h.get i hi; exact h1

theorem ownsRow_set {w : World} {B e size n cap g : Nat} {xs : List Value} (h : w.ownsRow B e size (.slice (some ⟨g, 0, none⟩) n cap) n xs) (j : Nat) (v : Value) : (w.setCell ⟨g, j, none⟩ v).ownsRow B e size (.slice (some ⟨g, 0, none⟩) n cap) n (xs.set j v) := by
  obtain ⟨hl, h⟩ := h
  rcases h with ⟨h, _⟩ | ⟨g', cap', cur, hv, hb, hh, hle, hmx, hcs, htk⟩
  · simp at h
  · simp only [Value.slice.injEq, Option.some.injEq, Addr.mk.injEq, and_true, true_and] at hv
    obtain ⟨rfl, rfl⟩ := hv
    refine ⟨by simpa using hl, .inr ⟨g, cap, _, rfl, hb, blk_setCell_at v hh, hle, hmx, by simpa using hcs, ?_⟩⟩
    rw [← htk, Array.toList_setIfInBounds, List.take_set]

theorem ownsRow_drew {w : World} {B e size n : Nat} {v : Value} {xs : List Value} (h : w.ownsRow B e size v n xs) : w.drew.ownsRow B e size v n xs := h

theorem news_alloc (w : World) (l : List Value) (e : TypeId) : ∀ (j : Nat) (u : Value), l[j]? = some u → (w.alloc (.cells l.toArray e)).cell? ((⟨w.heap.size, 0, none⟩ : Addr).add j) = some u := by
  intro j u hu
  have e1 : (⟨w.heap.size, 0, none⟩ : Addr).add j = ⟨w.heap.size, j, none⟩ := by unfold Addr.add; by_cases hj : j = 0 <;> simp [hj]
  rw [e1]
  exact cell_blk (blk_alloc_at _ _ _ rfl) (by simpa using hu)

end Go.Proofs.YtkiccbjngokpjaaGreat

/-
  More on things in memory: a row that is appended to, a row's cells. Of no program.
-/
namespace Go.Proofs.YtkiccbjngokpjaaGreat
open Go.RowKit
set_option linter.unusedVariables false
set_option linter.unusedSimpArgs false

section
variable {W : Base} {w : World} {R : List Thing}

theorem St.append (H : St W w R) (i : Nat) {e : TypeId} {size n : Nat} {v : Value} {xs : List Value} (hi : R[i]? = some (RowT e size v n xs)) :
    w.ownsRow 0 e size v n xs ∧ ∀ (v' : Value) (w' : World) (n' : Nat) (xs' : List Value), w'.ownsRow 0 e size v' n' xs' → Fr v.ownBlock.toList w w' → (∀ x, x ∈ v'.ownBlock.toList → x ∈ v.ownBlock.toList ∨ w.heap.size ≤ x) → St W w' (R.set i (RowT e size v' n' xs')) := by
  obtain ⟨F, ⟨rfl, h1⟩, h2, h3⟩ := H.at i hi
  exact ⟨h1, fun v' w' n' xs' ho hF hb => h3 w' _ _ inferInstance ⟨rfl, ho⟩ hF hb⟩

theorem ownsRow_shape {B e size : Nat} {v : Value} {n : Nat} {xs : List Value} (h : w.ownsRow B e size v n xs) (hn : 0 < n) : ∃ g cap, v = .slice (some ⟨g, 0, none⟩) n cap ∧ n ≤ cap ∧ cap ≤ maxLen := by
  obtain ⟨_, h2⟩ := h
  rcases h2 with ⟨_, h2⟩ | ⟨g', cap', cur, hv, _, _, hle, hmx, _⟩
  · omega
  · exact ⟨g', cap', hv, hle, hmx⟩

theorem ownsRow_cell {B e size n cap g : Nat} {xs : List Value} (h : w.ownsRow B e size (.slice (some ⟨g, 0, none⟩) n cap) n xs) (j : Nat) {u : Value} (hu : xs[j]? = some u) : w.cell? ⟨g, j, none⟩ = some u ∧ w.frozen? ⟨g, j, none⟩ = false := by
  obtain ⟨hl, h⟩ := h
  have hj : j < n * size := by rw [← hl]; exact (List.getElem?_eq_some_iff.1 hu).1
  rcases h with ⟨h, _⟩ | ⟨g', cap', cur, hv, hb, hh, hle, hmx, hcs, htk⟩
  · simp at h
  · simp only [Value.slice.injEq, Option.some.injEq, Addr.mk.injEq, and_true, true_and] at hv
    obtain ⟨rfl, rfl⟩ := hv
    refine ⟨cell_blk hh ?_, free_blk hh⟩
    rw [← hu, ← htk, List.getElem?_take_of_lt hj, Array.getElem?_toList]

/-- A cell of a row of the list is written. -/
theorem St.setRowCell (H : St W w R) (i : Nat) {e : TypeId} {size n g cap : Nat} {xs : List Value} (hi : R[i]? = some (RowT e size (.slice (some ⟨g, 0, none⟩) n cap) n xs)) (j : Nat) (v : Value) :
    St W (w.setCell ⟨g, j, none⟩ v) (R.set i (RowT e size (.slice (some ⟨g, 0, none⟩) n cap) n (xs.set j v))) := by
  obtain ⟨h1, h2⟩ := H.append i hi
  exact h2 _ _ _ _ (ownsRow_set h1 j v) ((Fr.refl _ _).setCell (.inl (by simp [Value.ownBlock])) _) (fun x hx => .inl hx)
end

end Go.Proofs.YtkiccbjngokpjaaGreat
