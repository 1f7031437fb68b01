/-
  Merged, in build order: Made Ref04.
-/
import Derived.Deep.RegionWith
import Derived.Test.YthghnlgojmedgaaGreatM19
/-
  The laws' helper 'made': a disk of sectors that may be, written to.
-/
namespace Go.Proofs.YthghnlgojmedgaaGreat
open Go.RowKit
set_option linter.unusedVariables false
set_option linter.unusedSimpArgs false

/-- The sectors that may be. -/
def okSecs (ss : List ByteArray) : Prop := 1 ≤ ss.length ∧ ss.length ≤ 1026 ∧ ∀ i, i < ss.length → (sAt ss i).size = 128

def DS.of (ss : List ByteArray) : DS := ⟨ss, [], 0, 0, false⟩
/-- The first k writes done. -/
def runW (d : DS) (ws : List (Int × ByteArray)) (k : Nat) : DS := (ws.take k).foldl (fun d x => (d.write x.1 x.2).2) d

theorem of_wf {ss : List ByteArray} (h : okSecs ss) : (DS.of ss).wf := ⟨h.1, h.2.1, h.2.2, by simp [DS.of], by simp [DS.of], by simp [DS.of], by simp [DS.of]⟩

theorem runW_succ (d : DS) (ws : List (Int × ByteArray)) (k : Nat) (hk : k < ws.length) : runW d ws (k + 1) = ((runW d ws k).write (wAt ws k).1 (wAt ws k).2).2 := by
  unfold runW
  rw [List.take_succ_eq_append_getElem hk, List.foldl_append]
  simp [wAt, List.getD, hk]
theorem runW_zero (d : DS) (ws : List (Int × ByteArray)) : runW d ws 0 = d := rfl
theorem runW_wf {d : DS} (hw : d.wf) (ws : List (Int × ByteArray)) (k : Nat) (hk : k ≤ ws.length) : (runW d ws k).wf := by
  induction k with
  | zero => exact hw
  | succ k ih => rw [runW_succ _ _ _ (by omega)]; exact write_wf (ih (by omega)) _ _
theorem runW_len (d : DS) (ws : List (Int × ByteArray)) (k : Nat) (hk : k ≤ ws.length) : (runW d ws k).sec.length = d.sec.length ∧ (runW d ws k).raw.length ≤ d.raw.length + k := by
  induction k with
  | zero => exact ⟨rfl, Nat.le_refl _⟩
  | succ k ih =>
    rw [runW_succ _ _ _ (by omega)]
    have h1 := ih (by omega)
    have h2 := write_len (runW d ws k) (wAt ws k).1 (wAt ws k).2
    omega

theorem load_split (ss : List ByteArray) : okSecs ss ∨ (ss.length < 1 ∨ 1026 < ss.length) ∨ 1 ≤ ss.length ∧ ss.length ≤ 1026 ∧ ∃ i, i < ss.length ∧ (sAt ss i).size ≠ 128 := by
  by_cases h : ss.length < 1 ∨ 1026 < ss.length
  · exact .inr (.inl h)
  by_cases h2 : ∃ i, i < ss.length ∧ (sAt ss i).size ≠ 128
  · exact .inr (.inr ⟨by omega, by omega, h2⟩)
  · refine .inl ⟨by omega, by omega, fun i hi => ?_⟩
    by_cases h3 : (sAt ss i).size = 128
    · exact h3
    · exact absurd ⟨i, hi, h3⟩ h2

/-- Load, whatever it is handed. -/
theorem disk_load (w : World) (a : Option Addr) (cap : Nat) (ss : List ByteArray) (h : In w 1 a ss.length cap (strV ss)) :
    Calls Tryz.prog 14 #[.slice a ss.length cap] w fun e w' => Fr [] w w' ∧ (¬ okSecs ss ∧ (∃ code : Int, (code = 40 ∨ code = 41) ∧ code = loadE ss ∧ e = .returned (.tuple #[.pointer none, .int .i64 code])) ∨
      okSecs ss ∧ ∃ D F, e = .returned (.tuple #[.pointer (some ⟨D, 0, none⟩), .int .i64 0]) ∧ Dk w' F D (DS.of ss) ∧ ∀ x, x ∈ F → w.heap.size ≤ x) := by
  have hm := h.max
  by_cases h1 : ss.length < 1 ∨ 1026 < ss.length
  · refine (disk_load_bad w a ss.length cap h1 hm).mono ?_
    rintro e w' ⟨rfl, rfl⟩
    exact ⟨Fr.refl _ _, .inl ⟨fun h => by have := h.1; have := h.2.1; omega, 40, .inl rfl, by unfold loadE; rw [if_pos h1], rfl⟩⟩
  · refine (disk_load_ok w a cap ss h (by omega) (by omega)).mono ?_
    rintro e w' ⟨hF, ⟨hbad, rfl⟩ | ⟨hgood, D, F, rfl, hk, hf⟩⟩
    · exact ⟨hF, .inl ⟨fun h => by obtain ⟨i, hi, hs⟩ := hbad; exact hs (h.2.2 i hi), 41, .inr rfl, by unfold loadE; rw [if_neg h1, if_pos hbad], rfl⟩⟩
    · exact ⟨hF, .inr ⟨⟨by omega, by omega, hgood⟩, D, F, rfl, hk, hf⟩⟩


end Go.Proofs.YthghnlgojmedgaaGreat

/-
  The document's disk: what it is in memory; fits, Load.
-/
namespace Go.Proofs.YthghnlgojmedgaaGreat
open Go.RowKit
set_option linter.unusedVariables false
set_option linter.unusedSimpArgs false

/-- The document's disk stands in block X; its lists lie in the other blocks of F, which it never writes into. -/
def Xk (w : World) (F : List Nat) (X : Nat) (d : DS) : Prop :=
  ∃ (sv rv : Value), F = X :: (sv.ownBlock.toList ++ rv.ownBlock.toList) ∧
    w.heap[X]? = some (.cells #[sv, rv, .int .i64 d.armed, .int .i64 d.bytes, .bool d.dead] 38 (0, 0)) ∧
    w.ownsRow 0 9 1 sv d.sec.length (strs d.sec d.sec.length) ∧ w.ownsRow 0 86 2 rv d.raw.length (rawCells d.raw)

theorem Xk.keep {w w' : World} {F G : List Nat} {X : Nat} {d : DS} (h : Xk w F X d) (hF : Fr G w w') (hd : ∀ x, x ∈ F → x ∉ G) : Xk w' F X d := by
  obtain ⟨sv, rv, rfl, h1, h2, h3⟩ := h
  exact ⟨sv, rv, rfl, hF.keep h1 (hd _ (by simp)), owns_keep h2 hF (fun g hg => hd g (by simp at hg ⊢; simp [hg])), owns_keep h3 hF (fun g hg => hd g (by simp at hg ⊢; simp [hg]))⟩

theorem Xk.lt {w : World} {F : List Nat} {X : Nat} {d : DS} (h : Xk w F X d) : ∀ x, x ∈ F → x < w.heap.size := by
  obtain ⟨sv, rv, rfl, h1, h2, h3⟩ := h
  intro x hx
  simp only [List.mem_cons, List.mem_append] at hx
  rcases hx with rfl | hx | hx
  · exact lt_of_block h1
  · exact owns_lt h2 x hx
  · exact owns_lt h3 x hx

set_option maxHeartbeats 800000 in
set_option maxRecDepth 100000 in
theorem fits_any (w : World) (a : Option Addr) (cap : Nat) (ss : List ByteArray) (h : In w 1 a ss.length cap (strV ss)) :
    Calls Tryz.prog 35 #[.slice a ss.length cap] w fun e w' => e = .returned (.int .i64 (loadE ss)) ∧ w = w' := by
  have hm := h.max
  by_cases h1 : ss.length < 1
  · have e : loadE ss = 40 := by unfold loadE; rw [if_pos (.inl h1)]
    rw [e]
    clear e h
    have h1' : (ss.length : Int) < 1 := by omega
    go_enter Tryz.func35, Tryz.ntmps35
    go_wp2
    go_ret
    exact ⟨rfl, rfl⟩
  by_cases h2 : 1026 < ss.length
  · have e : loadE ss = 40 := by unfold loadE; rw [if_pos (.inr h2)]
    rw [e]
    clear e h
    have h1' : ¬ (ss.length : Int) < 1 := by omega
    have h2' : (1026 : Int) < ss.length := by omega
    go_enter Tryz.func35, Tryz.ntmps35
    go_wp2
    go_ret
    exact ⟨rfl, rfl⟩
  obtain ⟨b, off, rfl⟩ := h.sm (by omega)
  have H := hid h
  clear h
  have h1' : ¬ (ss.length : Int) < 1 := by omega
  have h2' : ¬ (1026 : Int) < ss.length := by omega
  go_enter Tryz.func35, Tryz.ntmps35
  go_wp2
  go_loop [3] (fun i => ∃ (k : Nat), k ≤ ss.length ∧ i = .int .i64 k ∧ (∀ j, j < k → (sAt ss j).size = 128)) (fun i => ss.length - (intOf i).toNat)
  case atStart => exact ⟨0, Nat.zero_le _, rfl, fun j hj => absurd hj (Nat.not_lt_zero _)⟩
  case round =>
    obtain ⟨k, hk, rfl, hall⟩ := hrel
    have HAll := hid hall
    clear hall
    by_cases hlt : k < ss.length
    · have hc := H.out.cell b off rfl k (by omega)
      simp only [strV] at hc
      by_cases hs : (sAt ss k).size = 128
      · have hs1 : (((sAt ss k).size : Int) == 128) = true := by rw [beq_iff_eq]; omega
        have hs2 : (((sAt ss k).size : Int) != 128) = false := by rw [bne_eq_false_iff_eq]; omega
        have HS := hid hs
        clear hs
        go_wp2
        go_round
        case rel => exact ⟨k + 1, by omega, by go_num, fun j hj => by by_cases hjk : j = k; (subst hjk; exact HS.out); exact HAll.out j (by omega)⟩
        case measure => simp [intOf]; omega
      · have hs1 : (((sAt ss k).size : Int) == 128) = false := by rw [beq_eq_false_iff_ne]; omega
        have hs2 : (((sAt ss k).size : Int) != 128) = true := by rw [bne_iff_ne]; omega
        have e : loadE ss = 41 := by unfold loadE; rw [if_neg (by omega), if_pos ⟨k, hlt, hs⟩]
        have HE := hid e
        clear hs e
        go_wp2
        go_ret
        rw [HE.out]
        exact ⟨rfl, rfl⟩
    · obtain rfl : k = ss.length := by omega
      have e : loadE ss = 0 := by unfold loadE; rw [if_neg (by omega), if_neg (by rintro ⟨i, hi, hs⟩; exact hs (HAll.out i hi))]
      have HE := hid e
      clear e
      go_wp2
      go_ret
      rw [HE.out]
      exact ⟨rfl, rfl⟩

theorem loadE_ok {ss : List ByteArray} : loadE ss = 0 ↔ okSecs ss := by
  unfold loadE
  constructor
  · intro h
    split at h
    · omega
    · split at h
      · omega
      · rename_i h1 h2
        refine ⟨by omega, by omega, fun i hi => ?_⟩
        by_cases h3 : (sAt ss i).size = 128
        · exact h3
        · exact absurd ⟨i, hi, h3⟩ h2
  · intro h
    have h1 := h.1
    have h2 := h.2.1
    rw [if_neg (by omega), if_neg (by rintro ⟨i, hi, hs⟩; exact hs (h.2.2 i hi))]

theorem loadE_bad {ss : List ByteArray} (h : ¬ okSecs ss) : loadE ss = 40 ∨ loadE ss = 41 := by
  by_cases h0 : loadE ss = 0
  · exact absurd (loadE_ok.1 h0) h
  · revert h0; unfold loadE; split
    · simp
    · split <;> simp

set_option maxHeartbeats 800000 in
set_option maxRecDepth 100000 in
theorem ref_load_bad (w : World) (a : Option Addr) (cap : Nat) (ss : List ByteArray) (h : In w 1 a ss.length cap (strV ss)) (hb : ¬ okSecs ss) :
    Calls Tryz.prog 15 #[.slice a ss.length cap] w fun e w' => e = .returned (.tuple #[.pointer none, .int .i64 (loadE ss)]) ∧ w = w' := by
  have HF := hid (fits_any w a cap ss h)
  have hcode := loadE_bad hb
  clear h hb
  generalize loadE ss = code at HF hcode ⊢
  rcases hcode with rfl | rfl
  all_goals
    go_enter Tryz.func15, Tryz.ntmps15
    go_wp2_with fail
    refine HF.out.mono ?_
    rintro e w1 ⟨rfl, rfl⟩
    go_wp2_with fail
    go_ret2
    exact ⟨rfl, rfl⟩

set_option maxHeartbeats 800000 in
set_option maxRecDepth 100000 in
theorem ref_load_ok (w : World) (a : Option Addr) (cap : Nat) (ss : List ByteArray) (h : In w 1 a ss.length cap (strV ss)) (hok : okSecs ss) :
    Calls Tryz.prog 15 #[.slice a ss.length cap] w fun e w' => ∃ X F, e = .returned (.tuple #[.pointer (some ⟨X, 0, none⟩), .int .i64 0]) ∧ Fr [] w w' ∧ Xk w' F X (DS.of ss) ∧ ∀ x, x ∈ F → w.heap.size ≤ x := by
  have HF := hid (fits_any w a cap ss h)
  rw [loadE_ok.2 hok] at HF
  have hn1 := hok.1
  have hn2 := hok.2.1
  obtain ⟨b, off, rfl⟩ := h.sm (by omega)
  obtain ⟨i0, hi, hz0, hz1, hz2⟩ := info_parts info_string
  have HI := hid (And.intro hi (And.intro hz0 (And.intro hz1 hz2)))
  have H := hid h
  clear h hok hi hz0 hz1 hz2
  go_enter Tryz.func15, Tryz.ntmps15
  go_wp2_with fail
  refine HF.out.mono ?_
  rintro e w1 ⟨rfl, rfl⟩
  go_wp2_with (at_builtin; refine wpList_append_blk rfl (.tmp 10) (.tmp 11) 34 rfl 9 i0 (.string ByteArray.empty) 1 16 Tryz.underlying34 HI.out.1 HI.out.2.1 HI.out.2.2.1 HI.out.2.2.2 rfl (by decide) (.slice (some ⟨w.heap.size, 0, none⟩) 0 0) 0 [] rfl ?qa ⟨b, off, none⟩ ss.length cap (strs ss ss.length) rfl ?qz ?qb ?qc ?qd ?qe ?_)
  case qa => exact ⟨by simp, Or.inr ⟨_, _, #[], rfl, Nat.zero_le _, blk_alloc_at _ _ _ rfl, Nat.le_refl _, by decide, by simp, by simp⟩⟩
  case qz => rw [strs_len, Nat.mul_one]
  case qb =>
    intro j u hu
    have hj : j < ss.length := by
      rcases Nat.lt_or_ge j ss.length with h1 | h1
      · exact h1
      · rw [List.getElem?_eq_none (by rw [strs_len]; exact h1)] at hu; simp at hu
    rw [strs_get _ _ _ hj] at hu
    have e1 : (⟨b, off, none⟩ : Addr).add j = ⟨b, off + j, none⟩ := by unfold Addr.add; by_cases hj : j = 0 <;> simp [hj]
    rw [e1]
    simp only [Option.some.injEq] at hu
    subst hu
    exact ((Fr.refl [] w).alloc _).cell0 (H.out.cell b off rfl j (by omega))
  case qc =>
    intro u hu
    simp only [strs, List.mem_map] at hu
    obtain ⟨x, _, rfl⟩ := hu; rfl
  case qd => unfold maxLen; omega
  case qe => omega
  intro v' w3 hown3 hF3 hblk hnil
  have hFx : Fr [] w w3 := ((Fr.refl [] w).alloc (.cells #[] 9)).step hF3 (by intro x hx; simp [Value.ownBlock] at hx; subst hx; exact .inr (Nat.le_refl _))
  have hb : ∀ x, x ∈ v'.ownBlock.toList → w.heap.size ≤ x := by
    intro x hx
    rcases hblk x (by simpa using hx) with h1 | h1
    · simp [Value.ownBlock] at h1; omega
    · omega
  obtain ⟨g, cg, hv⟩ := owns_shape hown3 (by omega)
  have HV := hid hv
  have HZ := hid (And.intro hown3 (And.intro hFx hb))
  clear hown3 hFx hb hF3 hblk hnil
  subst hv
  go_wp2_with fail
  go_ret2
  refine ⟨w3.heap.size, rfl, HZ.out.2.1.alloc _, _, ⟨_, .slice none 0 0, rfl, blk_alloc_at _ _ _ rfl, owns_keep (S := []) HZ.out.1 ((Fr.refl [] w3).alloc _) (by simp), World.ownsRow_nil _ _ _ _⟩, fun x hx => ?_⟩
  simp only [List.mem_cons, List.mem_append] at hx
  rcases hx with rfl | hx | hx
  · exact HZ.out.2.1.size
  · exact HZ.out.2.2 x hx
  · simp [Value.ownBlock] at hx

end Go.Proofs.YthghnlgojmedgaaGreat
