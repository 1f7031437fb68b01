/-
  Cut of the package disk, walked.
-/
import Derived.Test.YtkkahkgjedgjnaaCut
namespace Go.Proofs.Ytkkahkgjedgjnaa
open Go.RowKit
set_option linter.unusedVariables false
set_option linter.unusedSimpArgs false

def outK (ss : List ByteArray) (ws : List (Int × ByteArray)) (k : Nat) : List ByteArray := (ws.take k).foldl (fun l x => l.set x.1.toNat x.2) ss
def cutE (ss : List ByteArray) (ws : List (Int × ByteArray)) (n m : Int) : Int :=
  if ss.length < 1 ∨ 1026 < ss.length ∨ ∃ k, k < ws.length ∧ badSec ss.length (wAt ws k).1 = true then 40
  else if (∃ k, k < ss.length ∧ badLen (sAt ss k) = true) ∨ ∃ k, k < ws.length ∧ badLen (wAt ws k).2 = true then 41
  else if n < 0 ∨ (ws.length : Int) < n ∨ m < 0 ∨ 128 < m ∨ n = ws.length ∧ m ≠ 0 then 42 else 0
def cutV (ss : List ByteArray) (ws : List (Int × ByteArray)) (n m : Int) : List ByteArray :=
  if 0 < m then (outK ss ws n.toNat).set (wAt ws n.toNat).1.toNat (cutB (wAt ws n.toNat).2 (sAt (outK ss ws n.toNat) (wAt ws n.toNat).1.toNat) m.toNat) else outK ss ws n.toNat

/-- What Cut answers. -/
def CutRes (w : World) (ss : List ByteArray) (ws : List (Int × ByteArray)) (n m : Int) (e : Ending) (w' : World) : Prop :=
  Fr [] w w' ∧ (cutE ss ws n m ≠ 0 ∧ e = .returned (.tuple #[.slice none 0 0, .int .i64 (cutE ss ws n m)]) ∨
    cutE ss ws n m = 0 ∧ (cutV ss ws n m).length = ss.length ∧ ∃ g cap, e = .returned (.tuple #[.slice (some ⟨g, 0, none⟩) ss.length cap, .int .i64 0]) ∧ w.heap.size ≤ g ∧ ss.length ≤ cap ∧ cap ≤ maxLen ∧ WRow w' 9 1 (some ⟨g, 0, none⟩) ss.length (strV (cutV ss ws n m)))

theorem CutRes.bad {w w' : World} {ss : List ByteArray} {ws : List (Int × ByteArray)} {n m c : Int} (h : cutE ss ws n m = c) (hc : c ≠ 0) (hF : Fr [] w w') : CutRes w ss ws n m (.returned (.tuple #[.slice none 0 0, .int .i64 c])) w' :=
  ⟨hF, .inl ⟨by rw [h]; exact hc, by rw [h]⟩⟩

theorem WRow.congr {w : World} {e : TypeId} {size n : Nat} {ao : Option Addr} {V V' : Nat → Value} (h : WRow w e size ao n V) (hV : ∀ j, j < n * size → V j = V' j) : WRow w e size ao n V' := by
  rcases h with h | ⟨g, cur, h1, h2, h3, h4⟩
  · exact .inl h
  · exact .inr ⟨g, cur, h1, h2, h3, fun j hj => by rw [h4 j hj, hV j hj]⟩

theorem outK_len (ss : List ByteArray) (ws : List (Int × ByteArray)) (k : Nat) : (outK ss ws k).length = ss.length := by
  unfold outK
  generalize ws.take k = l
  induction l generalizing ss with
  | nil => rfl
  | cons x r ih => rw [List.foldl_cons, ih]; simp
theorem outK_succ (ss : List ByteArray) (ws : List (Int × ByteArray)) (k : Nat) (hk : k < ws.length) : outK ss ws (k + 1) = (outK ss ws k).set (wAt ws k).1.toNat (wAt ws k).2 := by
  unfold outK
  rw [List.take_succ_eq_append_getElem hk, List.foldl_append]
  simp [wAt, List.getD, hk]
theorem outK_size {ss : List ByteArray} {ws : List (Int × ByteArray)} (h1 : ∀ i, i < ss.length → (sAt ss i).size = 128) (h2 : ∀ k, k < ws.length → (wAt ws k).2.size = 128) (k : Nat) (hk : k ≤ ws.length) : ∀ i, i < ss.length → (sAt (outK ss ws k) i).size = 128 := by
  induction k with
  | zero => exact h1
  | succ k ih =>
    intro i hi
    rw [outK_succ _ _ _ (by omega)]
    by_cases hr : (wAt ws k).1.toNat < ss.length
    · rw [sAt_set _ _ _ _ (by rw [outK_len]; exact hr)]
      split
      · exact h2 k (by omega)
      · exact ih (by omega) i hi
    · rw [List.set_eq_of_length_le (by rw [outK_len]; omega)]
      exact ih (by omega) i hi

set_option maxHeartbeats 3200000 in
set_option maxRecDepth 100000 in
theorem cut_any (w : World) (a b : Option Addr) (ca cb : Nat) (ss : List ByteArray) (ws : List (Int × ByteArray)) (ha : In w 1 a ss.length ca (strV ss)) (hb : In w 2 b ws.length cb (wrV ws))
    (hss : ∀ i, i < ss.length → (sAt ss i).size ≤ 140737488351232) (hws : ∀ i, i < ws.length → (wAt ws i).2.size ≤ 140737488351232) (n m : Int) (n1 : -9223372036854775808 ≤ n) (n2 : n ≤ 9223372036854775807) (m2 : m ≤ 9223372036854775807) :
    Calls Try.prog 43 #[.slice a ss.length ca, .slice b ws.length cb, .int .i64 n, .int .i64 m] w (CutRes w ss ws n m) := by
  have hma := ha.max
  have hmb := hb.max
  by_cases h1 : ss.length < 1
  · have e : cutE ss ws n m = 40 := by unfold cutE; rw [if_pos (.inl h1)]
    have HE := hid e
    have h1' : (ss.length : Int) < 1 := by omega
    clear e ha hb hss hws
    go_enter Try.func43, Try.ntmps43
    go_wp2_with fail
    go_ret2
    exact .bad HE.out (by decide) ((Fr.refl _ _).alloc _)
  by_cases h2 : 1026 < ss.length
  · have e : cutE ss ws n m = 40 := by unfold cutE; rw [if_pos (.inr (.inl h2))]
    have HE := hid e
    have h1' : ¬ (ss.length : Int) < 1 := by omega
    have h2' : (1026 : Int) < ss.length := by omega
    clear e ha hb hss hws
    go_enter Try.func43, Try.ntmps43
    go_wp2_with fail
    go_ret2
    exact .bad HE.out (by decide) ((Fr.refl _ _).alloc _)
  have h1' : ¬ (ss.length : Int) < 1 := by omega
  have h2' : ¬ (1026 : Int) < ss.length := by omega
  have HA := hid ha
  have HB := hid hb
  have HSZ := hid (And.intro hss hws)
  have hF0 := (Fr.refl [] w).alloc (.cells #[.slice a ss.length ca] 46)
  have hbox : ∀ wx, Fr [] (w.alloc (.cells #[.slice a ss.length ca] 46)) wx → wx.cell? ⟨w.heap.size, 0, none⟩ = some (.slice a ss.length ca) := fun wx h => h.cell0 (cell_blk (blk_alloc_at _ _ _ rfl) rfl)
  have HC1 := hid (contains_writes (w.alloc (.cells #[.slice a ss.length ca] 46)) b cb ws (hb.fr0 hF0) 58 #[.pointer (some ⟨w.heap.size, 0, none⟩)] (fun k => badSec ss.length (wAt ws k).1) enter_cut1 (fun k wx hk hF => cut1_any wx _ a _ ca (hbox wx hF) hma _ _))
  have HBox := hid hbox
  clear ha hb hss hws hbox
  go_enter Try.func43, Try.ntmps43
  go_wp2_with fail
  generalize w.alloc (.cells #[.slice a ss.length ca] 46) = wA at hF0 HC1 HBox ⊢
  refine HC1.out.mono ?_
  rintro e w1 ⟨z, rfl, hF1, hz⟩
  have HF1 := hid (And.intro hF1 (And.intro (hF0.trans hF1) hz))
  have k1 := HBox.out _ hF1
  clear hF1 hz hF0
  cases z
  case true =>
    have e : cutE ss ws n m = 40 := by unfold cutE; rw [if_pos (.inr (.inr (HF1.out.2.2.1 rfl)))]
    have HE := hid e
    clear e
    go_wp2_with fail
    go_ret2
    exact .bad HE.out (by decide) HF1.out.2.1
  have e40 : ¬ (ss.length < 1 ∨ 1026 < ss.length ∨ ∃ k, k < ws.length ∧ badSec ss.length (wAt ws k).1 = true) := by
    rintro (h | h | h)
    · omega
    · omega
    · have := HF1.out.2.2.2 h; cases this
  have HE40 := hid e40
  clear e40
  have HC2 := hid (contains_strs w1 a ca ss (HA.out.fr0 HF1.out.2.1) 60 #[] (fun k => badLen (sAt ss k)) enter_cut2 (fun k wx hk hF => cut2_any wx _ (by have := HSZ.out.1 k hk; omega)))
  go_wp2_with fail
  refine HC2.out.mono ?_
  rintro e w2 ⟨z, rfl, hF2, hz⟩
  have HF2 := hid (And.intro (HF1.out.1.trans hF2) (And.intro (HF1.out.2.1.trans hF2) hz))
  have k2 := HBox.out _ HF2.out.1
  clear hF2 hz k1
  cases z
  case true =>
    have e : cutE ss ws n m = 41 := by unfold cutE; rw [if_neg HE40.out, if_pos (.inl (HF2.out.2.2.1 rfl))]
    have HE := hid e
    clear e
    go_wp2_with fail
    go_ret2
    exact .bad HE.out (by decide) HF2.out.2.1
  have HC3 := hid (contains_writes w2 b cb ws (HB.out.fr0 HF2.out.2.1) 61 #[] (fun k => badLen (wAt ws k).2) enter_cut3 (fun k wx hk hF => cut3_any wx _ _ (by have := HSZ.out.2 k hk; omega)))
  go_wp2_with fail
  refine HC3.out.mono ?_
  rintro e w3 ⟨z, rfl, hF3, hz⟩
  have HF3 := hid (And.intro (HF2.out.1.trans hF3) (And.intro (HF2.out.2.1.trans hF3) hz))
  have k3 := HBox.out _ HF3.out.1
  clear hF3 hz k2
  cases z
  case true =>
    have e : cutE ss ws n m = 41 := by unfold cutE; rw [if_neg HE40.out, if_pos (.inr (HF3.out.2.2.1 rfl))]
    have HE := hid e
    clear e
    go_wp2_with fail
    go_ret2
    exact .bad HE.out (by decide) HF3.out.2.1
  have e41 : ¬ ((∃ k, k < ss.length ∧ badLen (sAt ss k) = true) ∨ ∃ k, k < ws.length ∧ badLen (wAt ws k).2 = true) := by
    rintro (h | h)
    · have := HF2.out.2.2.2 h; cases this
    · have := HF3.out.2.2.2 h; cases this
  have HE41 := hid e41
  clear e41
  have HF3' := hid HF3.out.2.1
  clear HF1 HF2 HC1 HC2 HC3
  by_cases h42 : n < 0 ∨ (ws.length : Int) < n ∨ m < 0 ∨ 128 < m ∨ n = ws.length ∧ m ≠ 0
  · have e : cutE ss ws n m = 42 := by unfold cutE; rw [if_neg HE40.out, if_neg HE41.out, if_pos h42]
    have HE := hid e
    clear e
    by_cases g1 : n < 0
    · clear h42
      go_wp2_with fail
      go_ret2
      exact .bad HE.out (by decide) HF3'.out
    by_cases g2 : (ws.length : Int) < n
    · clear h42
      go_wp2_with fail
      go_ret2
      exact .bad HE.out (by decide) HF3'.out
    by_cases g3 : m < 0
    · clear h42
      go_wp2_with fail
      go_ret2
      exact .bad HE.out (by decide) HF3'.out
    by_cases g4 : 128 < m
    · clear h42
      go_wp2_with fail
      go_ret2
      exact .bad HE.out (by decide) HF3'.out
    · obtain ⟨g5, g6⟩ : n = ws.length ∧ m ≠ 0 := by omega
      have g7 : (m != 0) = true := by rw [bne_iff_ne]; exact g6
      subst g5
      clear h42 g6
      go_wp2_with fail
      go_ret2
      exact .bad HE.out (by decide) HF3'.out
  have e0 : cutE ss ws n m = 0 := by unfold cutE; rw [if_neg HE40.out, if_neg HE41.out, if_neg h42]
  have HE0 := hid e0
  clear e0
  obtain ⟨nn, rfl⟩ : ∃ nn : Nat, n = nn := ⟨n.toNat, by omega⟩
  obtain ⟨mm, rfl⟩ : ∃ mm : Nat, m = mm := ⟨m.toNat, by omega⟩
  have g1 : ¬ (nn : Int) < 0 := by omega
  have g2 : ¬ (ws.length : Int) < nn := by omega
  have g3 : ¬ (mm : Int) < 0 := by omega
  have g4 : ¬ (128 : Int) < mm := by omega
  have hnl : nn ≤ ws.length := by omega
  have hlc := HB.out.le
  have hlc2 : nn ≤ cb := by omega
  have hsz1 : ∀ i, i < ss.length → (sAt ss i).size = 128 := fun i hi => by
    by_cases h : (sAt ss i).size = 128
    · exact h
    · exact absurd (.inl ⟨i, hi, by unfold badLen; simp [h]⟩) HE41.out
  have hsz2 : ∀ i, i < ws.length → (wAt ws i).2.size = 128 := fun i hi => by
    by_cases h : (wAt ws i).2.size = 128
    · exact h
    · exact absurd (.inr ⟨i, hi, by unfold badLen; simp [h]⟩) HE41.out
  have hrg : ∀ i, i < ws.length → 0 ≤ (wAt ws i).1 ∧ (wAt ws i).1 < ss.length := fun i hi => by
    by_cases h : badSec ss.length (wAt ws i).1 = true
    · exact absurd (.inr (.inr ⟨i, hi, h⟩)) HE40.out
    · unfold badSec at h; simp at h; omega
  have HRG := hid (And.intro hrg (And.intro hsz1 hsz2))
  have hmn : nn = ws.length → mm = 0 := by omega
  have HMN := hid hmn
  obtain ⟨ba, oa, rfl⟩ := HA.out.sm (by omega)
  have HCl := hid (clone_strs w3 ba oa ca ss (HA.out.fr0 HF3'.out) (by omega))
  clear h42 hrg hsz1 hsz2 hmn HE40 HE41
  by_cases hm0 : mm = 0
  · subst hm0
    have HV := hid (show cutV ss ws nn ((0 : Nat) : Int) = outK ss ws nn by unfold cutV; simp)
    have hm0' : (((0 : Nat) : Int) != 0) = false := rfl
    by_cases hne : nn = ws.length
    · subst hne
      go_wp2_with fail
      refine HCl.out.mono ?_
      rintro e w4 ⟨g, cg, rfl, hF4, ho, hg⟩
      have hsh := ownsRow_shape ho (by omega)
      obtain ⟨_, _, he, hcg1, hcg2⟩ := hsh
      cases he
      have hcg3 : cg ≤ 9223372036854775807 := by unfold maxLen at hcg2; exact hcg2
      have hW4 := owns_W ho (strV ss) (fun j hj => strs_get _ _ j (by omega))
      have HW4 := hid (And.intro hW4 (And.intro hF4 (And.intro hg (And.intro hcg1 hcg2))))
      clear ho hF4 hg hcg2 hW4
      go_wp2_with fail
      refine (clip_strs w4 _ _ _ hcg1 hcg3 (fun h => by simp at h)).mono ?_
      rintro e w5 ⟨rfl, rfl⟩
      go_wp2_with fail
      obtain ⟨wo, rfl⟩ : ∃ wo : World, wo = w4 := ⟨_, rfl⟩
      go_loopw [66] (fun i wr => ∃ k : Nat, k ≤ ws.length ∧ i = .int .i64 k ∧ Fr [] w wr ∧ WRow wr 9 1 (some ⟨g, 0, none⟩) ss.length (strV (outK ss ws k))) (fun i _ => ws.length - (intOf i).toNat)
      case atStart => exact ⟨0, Nat.zero_le _, rfl, HF3'.out.trans HW4.out.2.1, HW4.out.1⟩
      case round =>
        obtain ⟨k, hk, rfl, hF, hW⟩ := hrel
        by_cases hlt : k < ws.length
        · obtain ⟨bb, ob, rfl⟩ := HB.out.sm (by omega)
          have c1 := hF.cell0 (HB.out.cell bb ob rfl (k * 2) (by omega))
          have c2 := hF.cell0 (HB.out.cell bb ob rfl (k * 2 + 1) (by omega))
          rw [wrV_0] at c1
          rw [wrV_1, ← Nat.add_assoc] at c2
          obtain ⟨r1, r2⟩ := HRG.out.1 k (by omega)
          obtain ⟨q, hq⟩ : ∃ q : Nat, (wAt ws k).1 = q := ⟨(wAt ws k).1.toNat, by omega⟩
          rw [hq] at c1 r1 r2
          have hq2 : q < ss.length := by omega
          have d1 := hW.cell q (by omega)
          have f1 := hW.free q
          rw [Nat.zero_add] at d1 f1
          have hgl : g < wr.heap.size := World.block_lt_of_cell? wr ⟨g, q, none⟩ d1
          have HX := hid (And.intro hF (And.intro hW hq))
          generalize hx : (wAt ws k).2 = x at c2
          have HXX := hid hx
          clear hF hW hq hx
          go_wp2_with fail
          go_roundw
          case rel =>
            have hs : outK ss ws (k + 1) = (outK ss ws k).set q x := by rw [outK_succ _ _ _ (by omega), HX.out.2.2, HXX.out]; rfl
            have hgw : w.heap.size ≤ g := by have h1 := HF3'.out.size; have h2 := HW4.out.2.2.1; omega
            have hst := (HX.out.2.1.set q (.string x)).keep ((Fr.refl [] _).alloc (.cells #[.int .i64 (q : Int), .string x] 56)) (by simp)
            refine ⟨k + 1, by omega, by go_num, (HX.out.1.setCell (p := ⟨g, q, none⟩) (.inr hgw) _).alloc _, ?_⟩
            rw [hs]
            refine hst.congr fun j hj => ?_
            unfold strV
            rw [sAt_set _ _ _ _ (by rw [outK_len]; exact hq2)]
            by_cases hj2 : j = q
            · rw [if_pos hj2, if_pos hj2]
            · rw [if_neg hj2, if_neg hj2]
          case measure => simp [intOf]; omega
        · obtain rfl : k = ws.length := by omega
          have HX := hid (And.intro hF hW)
          have hgw : w.heap.size ≤ g := by have h1 := HF3'.out.size; have h2 := HW4.out.2.2.1; omega
          have HG := hid hgw
          clear hF hW hgw
          go_wp2_with fail
          go_ret2
          exact ⟨HX.out.1, .inr ⟨HE0.out, by rw [HV.out]; exact outK_len _ _ _, g, _, rfl, HG.out, Nat.le_refl _, by unfold maxLen; omega, by rw [HV.out]; exact HX.out.2⟩⟩
    · have hne' : ((nn : Int) == (ws.length : Int)) = false := by rw [beq_eq_false_iff_ne]; omega
      have HNE := hid hne
      clear hne
      go_wp2_with fail
      refine HCl.out.mono ?_
      rintro e w4 ⟨g, cg, rfl, hF4, ho, hg⟩
      have hsh := ownsRow_shape ho (by omega)
      obtain ⟨_, _, he, hcg1, hcg2⟩ := hsh
      cases he
      have hcg3 : cg ≤ 9223372036854775807 := by unfold maxLen at hcg2; exact hcg2
      have hW4 := owns_W ho (strV ss) (fun j hj => strs_get _ _ j (by omega))
      have HW4 := hid (And.intro hW4 (And.intro hF4 (And.intro hg (And.intro hcg1 hcg2))))
      clear ho hF4 hg hcg2 hW4
      go_wp2_with fail
      refine (clip_strs w4 _ _ _ hcg1 hcg3 (fun h => by simp at h)).mono ?_
      rintro e w5 ⟨rfl, rfl⟩
      go_wp2_with fail
      obtain ⟨wo, rfl⟩ : ∃ wo : World, wo = w4 := ⟨_, rfl⟩
      go_loopw [66] (fun i wr => ∃ k : Nat, k ≤ nn ∧ i = .int .i64 k ∧ Fr [] w wr ∧ WRow wr 9 1 (some ⟨g, 0, none⟩) ss.length (strV (outK ss ws k))) (fun i _ => nn - (intOf i).toNat)
      case atStart => exact ⟨0, Nat.zero_le _, rfl, HF3'.out.trans HW4.out.2.1, HW4.out.1⟩
      case round =>
        obtain ⟨k, hk, rfl, hF, hW⟩ := hrel
        by_cases hlt : k < nn
        · obtain ⟨bb, ob, rfl⟩ := HB.out.sm (by omega)
          have c1 := hF.cell0 (HB.out.cell bb ob rfl (k * 2) (by omega))
          have c2 := hF.cell0 (HB.out.cell bb ob rfl (k * 2 + 1) (by omega))
          rw [wrV_0] at c1
          rw [wrV_1, ← Nat.add_assoc] at c2
          obtain ⟨r1, r2⟩ := HRG.out.1 k (by omega)
          obtain ⟨q, hq⟩ : ∃ q : Nat, (wAt ws k).1 = q := ⟨(wAt ws k).1.toNat, by omega⟩
          rw [hq] at c1 r1 r2
          have hq2 : q < ss.length := by omega
          have d1 := hW.cell q (by omega)
          have f1 := hW.free q
          rw [Nat.zero_add] at d1 f1
          have hgl : g < wr.heap.size := World.block_lt_of_cell? wr ⟨g, q, none⟩ d1
          have HX := hid (And.intro hF (And.intro hW hq))
          generalize hx : (wAt ws k).2 = x at c2
          have HXX := hid hx
          clear hF hW hq hx
          go_wp2_with fail
          go_roundw
          case rel =>
            have hs : outK ss ws (k + 1) = (outK ss ws k).set q x := by rw [outK_succ _ _ _ (by omega), HX.out.2.2, HXX.out]; rfl
            have hgw : w.heap.size ≤ g := by have h1 := HF3'.out.size; have h2 := HW4.out.2.2.1; omega
            have hst := (HX.out.2.1.set q (.string x)).keep ((Fr.refl [] _).alloc (.cells #[.int .i64 (q : Int), .string x] 56)) (by simp)
            refine ⟨k + 1, by omega, by go_num, (HX.out.1.setCell (p := ⟨g, q, none⟩) (.inr hgw) _).alloc _, ?_⟩
            rw [hs]
            refine hst.congr fun j hj => ?_
            unfold strV
            rw [sAt_set _ _ _ _ (by rw [outK_len]; exact hq2)]
            by_cases hj2 : j = q
            · rw [if_pos hj2, if_pos hj2]
            · rw [if_neg hj2, if_neg hj2]
          case measure => simp [intOf]; omega
        · obtain rfl : k = nn := by omega
          have HX := hid (And.intro hF hW)
          have hgw : w.heap.size ≤ g := by have h1 := HF3'.out.size; have h2 := HW4.out.2.2.1; omega
          have HG := hid hgw
          clear hF hW hgw
          go_wp2_with fail
          go_ret2
          exact ⟨HX.out.1, .inr ⟨HE0.out, by rw [HV.out]; exact outK_len _ _ _, g, _, rfl, HG.out, Nat.le_refl _, by unfold maxLen; omega, by rw [HV.out]; exact HX.out.2⟩⟩
  · have hne : nn ≠ ws.length := fun h => hm0 (HMN.out h)
    have hne' : ((nn : Int) == (ws.length : Int)) = false := by rw [beq_eq_false_iff_ne]; omega
    have hnl2 : nn < ws.length := by omega
    have hm1 : (0 : Int) < mm := by omega
    clear hne hm0
    go_wp2_with fail
    refine HCl.out.mono ?_
    rintro e w4 ⟨g, cg, rfl, hF4, ho, hg⟩
    have hsh := ownsRow_shape ho (by omega)
    obtain ⟨_, _, he, hcg1, hcg2⟩ := hsh
    cases he
    have hcg3 : cg ≤ 9223372036854775807 := by unfold maxLen at hcg2; exact hcg2
    have hW4 := owns_W ho (strV ss) (fun j hj => strs_get _ _ j (by omega))
    have HW4 := hid (And.intro hW4 (And.intro hF4 (And.intro hg (And.intro hcg1 hcg2))))
    clear ho hF4 hg hcg2 hW4
    go_wp2_with fail
    refine (clip_strs w4 _ _ _ hcg1 hcg3 (fun h => by simp at h)).mono ?_
    rintro e w5 ⟨rfl, rfl⟩
    go_wp2_with fail
    obtain ⟨wo, rfl⟩ : ∃ wo : World, wo = w4 := ⟨_, rfl⟩
    go_loopw [66] (fun i wr => ∃ k : Nat, k ≤ nn ∧ i = .int .i64 k ∧ Fr [] w wr ∧ WRow wr 9 1 (some ⟨g, 0, none⟩) ss.length (strV (outK ss ws k))) (fun i _ => nn - (intOf i).toNat)
    case atStart => exact ⟨0, Nat.zero_le _, rfl, HF3'.out.trans HW4.out.2.1, HW4.out.1⟩
    case round =>
      obtain ⟨k, hk, rfl, hF, hW⟩ := hrel
      by_cases hlt : k < nn
      · obtain ⟨bb, ob, rfl⟩ := HB.out.sm (by omega)
        have c1 := hF.cell0 (HB.out.cell bb ob rfl (k * 2) (by omega))
        have c2 := hF.cell0 (HB.out.cell bb ob rfl (k * 2 + 1) (by omega))
        rw [wrV_0] at c1
        rw [wrV_1, ← Nat.add_assoc] at c2
        obtain ⟨r1, r2⟩ := HRG.out.1 k (by omega)
        obtain ⟨q, hq⟩ : ∃ q : Nat, (wAt ws k).1 = q := ⟨(wAt ws k).1.toNat, by omega⟩
        rw [hq] at c1 r1 r2
        have hq2 : q < ss.length := by omega
        have d1 := hW.cell q (by omega)
        have f1 := hW.free q
        rw [Nat.zero_add] at d1 f1
        have hgl : g < wr.heap.size := World.block_lt_of_cell? wr ⟨g, q, none⟩ d1
        have HX := hid (And.intro hF (And.intro hW hq))
        generalize hx : (wAt ws k).2 = x at c2
        have HXX := hid hx
        clear hF hW hq hx
        go_wp2_with fail
        go_roundw
        case rel =>
          have hs : outK ss ws (k + 1) = (outK ss ws k).set q x := by rw [outK_succ _ _ _ (by omega), HX.out.2.2, HXX.out]; rfl
          have hgw : w.heap.size ≤ g := by have h1 := HF3'.out.size; have h2 := HW4.out.2.2.1; omega
          have hst := (HX.out.2.1.set q (.string x)).keep ((Fr.refl [] _).alloc (.cells #[.int .i64 (q : Int), .string x] 56)) (by simp)
          refine ⟨k + 1, by omega, by go_num, (HX.out.1.setCell (p := ⟨g, q, none⟩) (.inr hgw) _).alloc _, ?_⟩
          rw [hs]
          refine hst.congr fun j hj => ?_
          unfold strV
          rw [sAt_set _ _ _ _ (by rw [outK_len]; exact hq2)]
          by_cases hj2 : j = q
          · rw [if_pos hj2, if_pos hj2]
          · rw [if_neg hj2, if_neg hj2]
        case measure => simp [intOf]; omega
      · obtain rfl : k = nn := by omega
        have HX := hid (And.intro hF hW)
        have hgw : w.heap.size ≤ g := by have h1 := HF3'.out.size; have h2 := HW4.out.2.2.1; omega
        have HG := hid hgw
        clear hF hW hgw
        obtain ⟨bb, ob, rfl⟩ := HB.out.sm (by omega)
        have c1 := HX.out.1.cell0 (HB.out.cell bb ob rfl (k * 2) (by omega))
        have c2 := HX.out.1.cell0 (HB.out.cell bb ob rfl (k * 2 + 1) (by omega))
        rw [wrV_0] at c1
        rw [wrV_1, ← Nat.add_assoc] at c2
        obtain ⟨r1, r2⟩ := HRG.out.1 k (by omega)
        have hx128 := HRG.out.2.2 k (by omega)
        obtain ⟨q, hq⟩ : ∃ q : Nat, (wAt ws k).1 = q := ⟨(wAt ws k).1.toNat, by omega⟩
        rw [hq] at c1 r1 r2
        have hq2 : q < ss.length := by omega
        have hy128 := outK_size HRG.out.2.1 HRG.out.2.2 k (by omega) q hq2
        have d1 := HX.out.2.cell q (by omega)
        have f1 := HX.out.2.free q
        rw [Nat.zero_add] at d1 f1
        simp only [strV] at d1
        have hgl : g < wr.heap.size := World.block_lt_of_cell? wr ⟨g, q, none⟩ d1
        generalize hx : (wAt ws k).2 = x at c2 hx128
        generalize hy : sAt (outK ss ws k) q = y at d1 hy128
        have m1 : (mm : Int) ≤ x.size := by omega
        have m2 : (mm : Int) ≤ y.size := by omega
        have m3 : ¬ 9223372036854775807 < min mm x.size + (y.size - mm) := by omega
        have HV := hid (show cutV ss ws (k : Int) (mm : Int) = (outK ss ws k).set q (x.extract 0 mm ++ y.extract mm y.size) by
          unfold cutV
          rw [if_pos (by omega)]
          simp only [Int.toNat_natCast]
          rw [hq, hx]
          simp only [Int.toNat_natCast]
          rw [hy]; rfl)
        clear hx hy hq hx128 hy128
        go_wp2_with fail
        go_region
        go_wp2
        go_ret2
        have hst := (HX.out.2.set q (.string (x.extract 0 mm ++ y.extract mm y.size))).keep ((Fr.refl [] _).alloc (.cells #[.int .i64 (q : Int), .string x] 56)) (by simp)
        have hF9 := (HX.out.1.setCell (p := ⟨g, q, none⟩) (.inr HG.out) (.string (x.extract 0 mm ++ y.extract mm y.size))).alloc (.cells #[.int .i64 (q : Int), .string x] 56)
        refine ⟨hF9.drew, .inr ⟨HE0.out, by rw [HV.out, List.length_set]; exact outK_len _ _ _, g, _, rfl, HG.out, Nat.le_refl _, by unfold maxLen; omega, ?_⟩⟩
        rw [HV.out]
        refine WRow.congr (V := fun i => if i = q then .string (x.extract 0 mm ++ y.extract mm y.size) else strV (outK ss ws k) i) hst fun j hj => ?_
        unfold strV
        rw [sAt_set _ _ _ _ (by rw [outK_len]; exact hq2)]
        by_cases hj2 : j = q
        · rw [if_pos hj2, if_pos hj2]
        · rw [if_neg hj2, if_neg hj2]

end Go.Proofs.Ytkkahkgjedgjnaa
