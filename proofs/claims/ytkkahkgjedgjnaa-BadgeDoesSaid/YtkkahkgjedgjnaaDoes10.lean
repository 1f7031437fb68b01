/-
  The walk of BadgeDoes.
-/
import Derived.Test.YtkkahkgjedgjnaaRef10
import Derived.Test.YtkkahkgjedgjnaaIn
namespace Go.Proofs.Ytkkahkgjedgjnaa
open Go.RowKit
set_option linter.unusedVariables false

def ptr (b : Nat) : Value := .pointer (some ⟨b, 0, none⟩)

/-- The law's two lists, of n counters each, side by side: slice headers (g, cg), (h, ch); the objects' blocks bs, cs; the numbers L, R. -/
structure D10 (B : Nat) (w : World) (x0 : Int) (g cg h ch n : Nat) (bs cs : Nat → Nat) (L R : Nat → Int) : Prop where
  n1 : 1 ≤ n
  n8 : n ≤ 8
  ol : w.ownsRow B 23 1 (.slice (some ⟨g, 0, none⟩) n cg) n ((List.range n).map fun i => ptr (bs i))
  om : w.ownsRow B 36 1 (.slice (some ⟨h, 0, none⟩) n ch) n ((List.range n).map fun i => ptr (cs i))
  hc : ∀ i, i < n → Ctr w (bs i) x0 (L i) (R i)
  hx : ∀ i, i < n → RCtr w (cs i) x0 (L i) (R i)
  hB : ∀ i, i < n → B ≤ bs i ∧ B ≤ cs i
  bd : ∀ i, i < n → 0 ≤ L i ∧ L i ≤ 1099511627776 ∧ 0 ≤ R i ∧ R i ≤ 1099511627776
  nb : ∀ i j, i < n → j < n → bs i = bs j → i = j
  nc : ∀ i j, i < n → j < n → cs i = cs j → i = j

theorem ownsRow_blk {w : World} {B e size g n cap : Nat} {xs : List Value} (h : w.ownsRow B e size (.slice (some ⟨g, 0, none⟩) n cap) n xs) : ∃ cur, w.heap[g]? = some (.cells cur e (0, 0)) ∧ B ≤ g := by
  obtain ⟨_, h2⟩ := h
  rcases h2 with ⟨h2, _⟩ | ⟨g', cap', cur, hv, hg, hh, _⟩
  · simp at h2
  · simp at hv; obtain ⟨rfl, rfl⟩ := hv; exact ⟨cur, hh, hg⟩

theorem ownsRow_fr {S : List Nat} {w w' : World} {B e size g n cap : Nat} {xs : List Value} (h : w.ownsRow B e size (.slice (some ⟨g, 0, none⟩) n cap) n xs) (hF : Fr S w w') (hS : g ∉ S) : w'.ownsRow B e size (.slice (some ⟨g, 0, none⟩) n cap) n xs := by
  obtain ⟨h1, h2⟩ := h
  refine ⟨h1, ?_⟩
  rcases h2 with ⟨h2, _⟩ | ⟨g', cap', cur, hv, hg, hh, r⟩
  · simp at h2
  · simp only [Value.slice.injEq, Option.some.injEq, Addr.mk.injEq, and_true, true_and] at hv
    obtain ⟨rfl, rfl⟩ := hv
    exact Or.inr ⟨g, cap, cur, rfl, hg, hF.keep hh hS, r⟩

theorem ne_of_elem {w : World} {a b : Nat} {c c' : Array Value} {t t' : TypeId} {f f' : Nat × Nat} (h : w.heap[a]? = some (.cells c t f)) (h' : w.heap[b]? = some (.cells c' t' f')) (ht : t ≠ t') : a ≠ b := by
  rintro rfl; rw [h] at h'; simp at h'; exact ht h'.2.1

variable {B : Nat} {w : World} {x0 : Int} {g cg h ch n : Nat} {bs cs : Nat → Nat} {L R : Nat → Int}

theorem D10.gl (d : D10 B w x0 g cg h ch n bs cs L R) : (∀ i, i < n → g ≠ bs i) ∧ (∀ i, i < n → g ≠ cs i) ∧ (∀ i, i < n → h ≠ bs i) ∧ (∀ i, i < n → h ≠ cs i) ∧ (∀ i j, i < n → j < n → bs i ≠ cs j) ∧ g ≠ h := by
  obtain ⟨c1, h1, _⟩ := ownsRow_blk d.ol
  obtain ⟨c2, h2, _⟩ := ownsRow_blk d.om
  exact ⟨fun i hi => ne_of_elem h1 (d.hc i hi) (by decide), fun i hi => ne_of_elem h1 (d.hx i hi) (by decide), fun i hi => ne_of_elem h2 (d.hc i hi) (by decide), fun i hi => ne_of_elem h2 (d.hx i hi) (by decide),
    fun i j hi hj => ne_of_elem (d.hc i hi) (d.hx j hj) (by decide), ne_of_elem h1 h2 (by decide)⟩

theorem D10.keep {w' : World} (d : D10 B w x0 g cg h ch n bs cs L R) (hF : Fr [] w w') : D10 B w' x0 g cg h ch n bs cs L R :=
  ⟨d.n1, d.n8, ownsRow_fr d.ol hF (by simp), ownsRow_fr d.om hF (by simp), fun i hi => hF.keep (d.hc i hi) (by simp), fun i hi => hF.keep (d.hx i hi) (by simp), d.hB, d.bd, d.nb, d.nc⟩

def upd (f : Nat → Int) (k : Nat) (v : Int) : Nat → Int := fun i => if i = k then v else f i

/-- Both counters number k go on by one call. -/
theorem D10.next {w1 w2 : World} {k : Nat} {l' r' : Int} (d : D10 B w x0 g cg h ch n bs cs L R) (hk : k < n) (h1 : Fr [bs k] w w1) (c1 : Ctr w1 (bs k) x0 l' r') (h2 : Fr [cs k] w1 w2) (c2 : RCtr w2 (cs k) x0 l' r')
    (hb : 0 ≤ l' ∧ l' ≤ 1099511627776 ∧ 0 ≤ r' ∧ r' ≤ 1099511627776) : D10 B w2 x0 g cg h ch n bs cs (upd L k l') (upd R k r') := by
  obtain ⟨e1, e2, e3, e4, e5, e6⟩ := d.gl
  refine ⟨d.n1, d.n8, ownsRow_fr (ownsRow_fr d.ol h1 (by simpa using e1 k hk)) h2 (by simpa using e2 k hk), ownsRow_fr (ownsRow_fr d.om h1 (by simpa using e3 k hk)) h2 (by simpa using e4 k hk), fun i hi => ?_, fun i hi => ?_, d.hB, fun i hi => ?_, d.nb, d.nc⟩
  · unfold upd
    by_cases hik : i = k
    · subst hik; rw [if_pos rfl, if_pos rfl]; exact h2.keep c1 (by simpa using e5 i i hi hi)
    · rw [if_neg hik, if_neg hik]
      exact h2.keep (h1.keep (d.hc i hi) (by simp; exact fun e => hik (d.nb i k hi hk e))) (by simpa using e5 i k hi hk)
  · unfold upd
    by_cases hik : i = k
    · subst hik; rw [if_pos rfl, if_pos rfl]; exact c2
    · rw [if_neg hik, if_neg hik]
      exact h2.keep (h1.keep (d.hx i hi) (by simpa using (e5 k i hk hi).symm)) (by simp; exact fun e => hik (d.nc i k hi hk e))
  · unfold upd
    by_cases hik : i = k
    · rw [if_pos hik, if_pos hik]; exact hb
    · rw [if_neg hik, if_neg hik]; exact d.bd i hi

theorem map_range_snoc {α : Type} (f : Nat → α) (n : Nat) (x : α) : ((List.range n).map f) ++ [x] = (List.range (n + 1)).map (fun i => if i = n then x else f i) := by
  rw [List.range_succ, List.map_append]
  congr 1
  · refine List.map_congr_left fun i hi => ?_
    have := List.mem_range.1 hi
    rw [if_neg (by omega)]
  · simp

/-- The facts that the walk wants of list l, list m, at place k. -/
theorem D10.at (d : D10 B w x0 g cg h ch n bs cs L R) {k : Nat} (hk : k < n) :
    w.cell? ⟨g, k, none⟩ = some (.pointer (some ⟨bs k, 0, none⟩)) ∧ w.cell? ⟨h, k, none⟩ = some (.pointer (some ⟨cs k, 0, none⟩)) := by
  refine ⟨?_, ?_⟩
  · rw [d.ol.cellAt k (by omega)]; simp [hk, ptr]
  · rw [d.om.cellAt k (by omega)]; simp [hk, ptr]

theorem D10.start (hB : B ≤ w.heap.size) (hb1 : 1 ≤ x0) (x1 : Int) (h1 : 0 ≤ x1) (h2 : x1 ≤ 1099511627776) (b c : Nat) (hc : Ctr w b x0 x1 x1) (hx : RCtr w c x0 x1 x1) (hbb : B ≤ b) (hcc : B ≤ c) :
    D10 B ((w.alloc (.cells #[ptr b] 23)).alloc (.cells #[ptr c] 36)) x0 w.heap.size 1 (w.heap.size + 1) 1 1 (fun _ => b) (fun _ => c) (fun _ => x1) (fun _ => x1) := by
  refine ⟨by omega, by omega, ?_, ?_, fun _ _ => blk_alloc_lt _ (blk_alloc_lt _ hc), fun _ _ => blk_alloc_lt _ (blk_alloc_lt _ hx), fun _ _ => ⟨hbb, hcc⟩, fun _ _ => ⟨h1, h2, h1, h2⟩, fun i j hi hj _ => by omega, fun i j hi hj _ => by omega⟩
  · exact ⟨by simp, Or.inr ⟨_, _, #[ptr b], rfl, hB, blk_alloc_lt _ (blk_alloc_at _ _ _ rfl), by omega, by decide, rfl, by simp⟩⟩
  · exact ⟨by simp, Or.inr ⟨_, _, #[ptr c], rfl, by omega, blk_alloc_at _ _ _ (by simp), by omega, by decide, rfl, by simp⟩⟩

theorem Fr.of_grown {w w' : World} {row : Option Nat} (h : w.grownBy w' row) : Fr row.toList w w' :=
  (Fr.refl row.toList w).grown h (fun k hk => .inl (by simp [hk]))

theorem owns_shape {w : World} {B e size : Nat} {v : Value} {n : Nat} {xs : List Value} (h : w.ownsRow B e size v n xs) (hn : 0 < n) : ∃ g cap, v = .slice (some ⟨g, 0, none⟩) n cap := by
  obtain ⟨_, h2⟩ := h
  rcases h2 with ⟨_, h2⟩ | ⟨g', cap', cur, hv, _⟩
  · omega
  · exact ⟨g', cap', hv⟩

theorem owns_fr {S : List Nat} {w w' : World} {B e size n : Nat} {v : Value} {xs : List Value} (h : w.ownsRow B e size v n xs) (hF : Fr S w w') (hS : ∀ g, v.ownBlock = some g → g ∉ S) : w'.ownsRow B e size v n xs := by
  obtain ⟨h1, h2⟩ := h
  refine ⟨h1, ?_⟩
  rcases h2 with h2 | ⟨g', cap', cur, hv, hg, hh, r⟩
  · exact .inl h2
  · subst hv
    exact Or.inr ⟨g', cap', cur, rfl, hg, hF.keep hh (hS g' rfl), r⟩

/-- One more pair of counters, clones of the ones at place k. -/
theorem D10.add {w2 : World} {g' cg' h' ch' k C C' : Nat} (d : D10 B w x0 g cg h ch n bs cs L R) (hn : n < 8) (hk : k < n) (hF : Fr [g, h] w w2)
    (ol : w2.ownsRow B 23 1 (.slice (some ⟨g', 0, none⟩) (n + 1) cg') (n + 1) (((List.range n).map fun i => ptr (bs i)) ++ [ptr C]))
    (om : w2.ownsRow B 36 1 (.slice (some ⟨h', 0, none⟩) (n + 1) ch') (n + 1) (((List.range n).map fun i => ptr (cs i)) ++ [ptr C']))
    (hC : Ctr w2 C x0 (L k) (R k)) (hX : RCtr w2 C' x0 (L k) (R k)) (h1 : w.heap.size ≤ C) (h2 : w.heap.size ≤ C') (hB : B ≤ w.heap.size) :
    D10 B w2 x0 g' cg' h' ch' (n + 1) (fun i => if i = n then C else bs i) (fun i => if i = n then C' else cs i) (fun i => if i = n then L k else L i) (fun i => if i = n then R k else R i) := by
  obtain ⟨e1, e2, e3, e4, e5, e6⟩ := d.gl
  refine ⟨by omega, by omega, ?_, ?_, fun i hi => ?_, fun i hi => ?_, fun i hi => ?_, fun i hi => ?_, fun i j hi hj h => ?_, fun i j hi hj h => ?_⟩
  · rw [map_range_snoc] at ol
    rw [show (fun i => ptr (if i = n then C else bs i)) = (fun i => if i = n then ptr C else ptr (bs i)) from by funext i; split <;> rfl]
    exact ol
  · rw [map_range_snoc] at om
    rw [show (fun i => ptr (if i = n then C' else cs i)) = (fun i => if i = n then ptr C' else ptr (cs i)) from by funext i; split <;> rfl]
    exact om
  · by_cases hin : i = n
    · simp only [hin, if_true]; exact hC
    · simp only [hin, if_false]
      exact hF.keep (d.hc i (by omega)) (by simp; exact ⟨(e1 i (by omega)).symm, (e3 i (by omega)).symm⟩)
  · by_cases hin : i = n
    · simp only [hin, if_true]; exact hX
    · simp only [hin, if_false]
      exact hF.keep (d.hx i (by omega)) (by simp; exact ⟨(e2 i (by omega)).symm, (e4 i (by omega)).symm⟩)
  · by_cases hin : i = n
    · simp only [hin, if_true]; omega
    · simp only [hin, if_false]; exact d.hB i (by omega)
  · by_cases hin : i = n
    · simp only [hin, if_true]; exact d.bd k hk
    · simp only [hin, if_false]; exact d.bd i (by omega)
  · by_cases hin : i = n <;> by_cases hjn : j = n
    · omega
    · simp only [hin, hjn, if_true, if_false] at h
      have := lt_of_block (d.hc j (by omega)); omega
    · simp only [hin, hjn, if_true, if_false] at h
      have := lt_of_block (d.hc i (by omega)); omega
    · simp only [hin, hjn, if_false] at h
      exact d.nb i j (by omega) (by omega) h
  · by_cases hin : i = n <;> by_cases hjn : j = n
    · omega
    · simp only [hin, hjn, if_true, if_false] at h
      have := lt_of_block (d.hx j (by omega)); omega
    · simp only [hin, hjn, if_true, if_false] at h
      have := lt_of_block (d.hx i (by omega)); omega
    · simp only [hin, hjn, if_false] at h
      exact d.nc i j (by omega) (by omega) h

end Go.Proofs.Ytkkahkgjedgjnaa
