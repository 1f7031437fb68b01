/-
  Cut of the document's disk, walked.
-/
import Derived.Test.YtkkahkgjedgjnaaCut2
namespace Go.Proofs.Ytkkahkgjedgjnaa
open Go.RowKit
set_option linter.unusedVariables false
set_option linter.unusedSimpArgs false

set_option maxHeartbeats 3200000 in
set_option maxRecDepth 100000 in
theorem ref_cut_any (w : World) (a b : Option Addr) (ca cb : Nat) (ss : List ByteArray) (ws : List (Int × ByteArray)) (ha : In w 1 a ss.length ca (strV ss)) (hb : In w 2 b ws.length cb (wrV ws))
    (hws : ∀ i, i < ws.length → (wAt ws i).2.size ≤ 140737488351232) (n m : Int) (n1 : -9223372036854775808 ≤ n) (n2 : n ≤ 9223372036854775807) (m2 : m ≤ 9223372036854775807) :
    Calls Try.prog 44 #[.slice a ss.length ca, .slice b ws.length cb, .int .i64 n, .int .i64 m] w (CutRes w ss ws n m) := by
  have hma := ha.max
  have hmb := hb.max
  by_cases h1 : ss.length < 1
  · have e : cutE ss ws n m = 40 := by unfold cutE; rw [if_pos (.inl h1)]
    have HE := hid e
    have h1' : (ss.length : Int) < 1 := by omega
    clear e ha hb hws
    go_enter Try.func44, Try.ntmps44
    go_wp2_with fail
    go_ret2
    exact .bad HE.out (by decide) (Fr.refl _ _)
  by_cases h2 : 1026 < ss.length
  · have e : cutE ss ws n m = 40 := by unfold cutE; rw [if_pos (.inr (.inl h2))]
    have HE := hid e
    have h1' : ¬ (ss.length : Int) < 1 := by omega
    have h2' : (1026 : Int) < ss.length := by omega
    clear e ha hb hws
    go_enter Try.func44, Try.ntmps44
    go_wp2_with fail
    go_ret2
    exact .bad HE.out (by decide) (Fr.refl _ _)
  have h1' : ¬ (ss.length : Int) < 1 := by omega
  have h2' : ¬ (1026 : Int) < ss.length := by omega
  have HFt := hid (fits_any w a ca ss ha)
  have HA := hid ha
  have HB := hid hb
  have HSZ := hid hws
  obtain ⟨i0, hi, hz0, hz1, hz2⟩ := info_parts info_string
  have HI := hid (And.intro hi (And.intro hz0 (And.intro hz1 hz2)))
  clear ha hb hws hi hz0 hz1 hz2
  go_enter Try.func44, Try.ntmps44
  go_wp2_with fail
  go_loop [10] (fun i => ∃ k : Nat, k ≤ ws.length ∧ i = .int .i64 k ∧ (∀ j, j < k → badSec ss.length (wAt ws j).1 = false)) (fun i => ws.length - (intOf i).toNat)
  case atStart => exact ⟨0, Nat.zero_le _, rfl, fun j hj => absurd hj (Nat.not_lt_zero _)⟩
  case round =>
    obtain ⟨k, hk, rfl, hall⟩ := hrel
    have HAll := hid hall
    clear hall
    by_cases hlt : k < ws.length
    · obtain ⟨bb, ob, rfl⟩ := HB.out.sm (by omega)
      have c1 := HB.out.cell bb ob rfl (k * 2) (by omega)
      rw [wrV_0] at c1
      by_cases hbad : badSec ss.length (wAt ws k).1 = true
      · have e : cutE ss ws n m = 40 := by unfold cutE; rw [if_pos (.inr (.inr ⟨k, hlt, hbad⟩))]
        have HE := hid e
        have hb2 : (wAt ws k).1 < 0 ∨ (ss.length : Int) ≤ (wAt ws k).1 := by unfold badSec at hbad; simpa using hbad
        generalize (wAt ws k).1 = x at c1 hb2
        clear e hbad
        by_cases hx : x < 0
        · clear hb2
          go_wp2_with fail
          go_ret2
          exact .bad HE.out (by decide) (Fr.refl _ _)
        · have hx2 : (ss.length : Int) ≤ x := by omega
          clear hb2
          go_wp2_with fail
          go_ret2
          exact .bad HE.out (by decide) (Fr.refl _ _)
      · have hb2 : ¬ (wAt ws k).1 < 0 ∧ ¬ (ss.length : Int) ≤ (wAt ws k).1 := by unfold badSec at hbad; simp at hbad; omega
        have HBd := hid (show badSec ss.length (wAt ws k).1 = false by simpa using hbad)
        obtain ⟨hb3, hb4⟩ := hb2
        generalize hgx : (wAt ws k).1 = x at c1 hb3 hb4
        clear hbad hgx
        go_wp2_with fail
        go_round
        case rel => exact ⟨k + 1, by omega, by go_num, fun j hj => by by_cases hjk : j = k; (subst hjk; exact HBd.out); exact HAll.out j (by omega)⟩
        case measure => simp [intOf]; omega
    · obtain rfl : k = ws.length := by omega
      have e40 : ¬ (ss.length < 1 ∨ 1026 < ss.length ∨ ∃ k, k < ws.length ∧ badSec ss.length (wAt ws k).1 = true) := by
        rintro (h | h | ⟨j, h, h3⟩)
        · omega
        · omega
        · rw [HAll.out j h] at h3; cases h3
      have HE40 := hid e40
      clear e40 hlt hk
      go_wp2_with fail
      refine HFt.out.mono ?_
      rintro e w1 ⟨rfl, rfl⟩
      by_cases hbs : ∃ i, i < ss.length ∧ (sAt ss i).size ≠ 128
      · have e : loadE ss = 41 := by unfold loadE; rw [if_neg (by omega), if_pos hbs]
        have e2 : cutE ss ws n m = 41 := by
          obtain ⟨i, hi, hs⟩ := hbs
          unfold cutE; rw [if_neg HE40.out, if_pos (.inl ⟨i, hi, by unfold badLen; simp [hs]⟩)]
        have HE := hid e2
        rw [e]
        clear e e2 hbs
        go_wp2_with fail
        go_ret2
        exact .bad HE.out (by decide) (Fr.refl _ _)
      have e : loadE ss = 0 := by unfold loadE; rw [if_neg (by omega), if_neg hbs]
      have hsz1 : ∀ i, i < ss.length → (sAt ss i).size = 128 := fun i hi => by
        by_cases h : (sAt ss i).size = 128
        · exact h
        · exact absurd ⟨i, hi, h⟩ hbs
      have HS1 := hid hsz1
      rw [e]
      clear e hbs hsz1
      go_wp2_with fail
      go_loop [12] (fun i => ∃ k : Nat, k ≤ ws.length ∧ i = .int .i64 k ∧ (∀ j, j < k → (wAt ws j).2.size = 128)) (fun i => ws.length - (intOf i).toNat)
      case atStart => exact ⟨0, Nat.zero_le _, rfl, fun j hj => absurd hj (Nat.not_lt_zero _)⟩
      case round =>
        obtain ⟨k, hk, rfl, hall⟩ := hrel
        have HAl2 := hid hall
        clear hall
        by_cases hlt : k < ws.length
        · obtain ⟨bb, ob, rfl⟩ := HB.out.sm (by omega)
          have c2 := HB.out.cell bb ob rfl (k * 2 + 1) (by omega)
          rw [wrV_1, ← Nat.add_assoc] at c2
          have hsl := HSZ.out k hlt
          by_cases hs : (wAt ws k).2.size = 128
          · have hs1 : (((wAt ws k).2.size : Int) == 128) = true := by rw [beq_iff_eq]; omega
            have hs2 : (((wAt ws k).2.size : Int) != 128) = false := by rw [bne_eq_false_iff_eq]; omega
            have HSk := hid hs
            generalize hgx : (wAt ws k).2 = x at c2 hs1 hs2 hsl
            clear hs hgx
            go_wp2_with fail
            go_round
            case rel => exact ⟨k + 1, by omega, by go_num, fun j hj => by by_cases hjk : j = k; (subst hjk; exact HSk.out); exact HAl2.out j (by omega)⟩
            case measure => simp [intOf]; omega
          · have hs1 : (((wAt ws k).2.size : Int) == 128) = false := by rw [beq_eq_false_iff_ne]; omega
            have hs2 : (((wAt ws k).2.size : Int) != 128) = true := by rw [bne_iff_ne]; omega
            have e2 : cutE ss ws n m = 41 := by
              unfold cutE; rw [if_neg HE40.out, if_pos (.inr ⟨k, hlt, by unfold badLen; simp [hs]⟩)]
            have HE := hid e2
            generalize hgx : (wAt ws k).2 = x at c2 hs1 hs2 hsl
            clear hs hgx e2
            go_wp2_with fail
            go_ret2
            exact .bad HE.out (by decide) (Fr.refl _ _)
        · obtain rfl : k = ws.length := by omega
          have e41 : ¬ ((∃ k, k < ss.length ∧ badLen (sAt ss k) = true) ∨ ∃ k, k < ws.length ∧ badLen (wAt ws k).2 = true) := by
            rintro (⟨j, h, h3⟩ | ⟨j, h, h3⟩)
            · unfold badLen at h3; simp at h3; exact h3 (HS1.out j h)
            · unfold badLen at h3; simp at h3; exact h3 (HAl2.out j h)
          have HE41 := hid e41
          clear e41 hlt hk
          by_cases h42 : n < 0 ∨ (ws.length : Int) < n ∨ m < 0 ∨ 128 < m ∨ n = ws.length ∧ m ≠ 0
          · have e : cutE ss ws n m = 42 := by unfold cutE; rw [if_neg HE40.out, if_neg HE41.out, if_pos h42]
            have HE := hid e
            clear e
            by_cases g1 : n < 0
            · clear h42
              go_wp2_with fail
              go_ret2
              exact .bad HE.out (by decide) (Fr.refl _ _)
            by_cases g2 : (ws.length : Int) < n
            · clear h42
              go_wp2_with fail
              go_ret2
              exact .bad HE.out (by decide) (Fr.refl _ _)
            by_cases g3 : m < 0
            · clear h42
              go_wp2_with fail
              go_ret2
              exact .bad HE.out (by decide) (Fr.refl _ _)
            by_cases g4 : 128 < m
            · clear h42
              go_wp2_with fail
              go_ret2
              exact .bad HE.out (by decide) (Fr.refl _ _)
            · obtain ⟨g5, g6⟩ : n = ws.length ∧ m ≠ 0 := by omega
              have g7 : (m != 0) = true := by rw [bne_iff_ne]; exact g6
              subst g5
              clear h42 g6
              go_wp2_with fail
              go_ret2
              exact .bad HE.out (by decide) (Fr.refl _ _)
          have e0 : cutE ss ws n m = 0 := by unfold cutE; rw [if_neg HE40.out, if_neg HE41.out, if_neg h42]
          have HE0 := hid e0
          have hrg : ∀ i, i < ws.length → 0 ≤ (wAt ws i).1 ∧ (wAt ws i).1 < ss.length := fun i hi => by
            have := HAll.out i hi
            unfold badSec at this; simp at this; omega
          have HRG := hid (And.intro hrg (And.intro HS1.out HAl2.out))
          obtain ⟨nn, rfl⟩ : ∃ nn : Nat, n = nn := ⟨n.toNat, by omega⟩
          obtain ⟨mm, rfl⟩ : ∃ mm : Nat, m = mm := ⟨m.toNat, by omega⟩
          have g1 : ¬ (nn : Int) < 0 := by omega
          have g2 : ¬ (ws.length : Int) < nn := by omega
          have g3 : ¬ (mm : Int) < 0 := by omega
          have g4 : ¬ (128 : Int) < mm := by omega
          have hnl : nn ≤ ws.length := by omega
          have hmn : nn = ws.length → mm = 0 := by omega
          have HMN := hid hmn
          obtain ⟨ba, oa, rfl⟩ := HA.out.sm (by omega)
          clear h42 hrg e0 hmn HE40 HE41 HAll HAl2 HS1 HFt
          by_cases hm0 : mm = 0
          · subst hm0
            have HV := hid (show cutV ss ws nn ((0 : Nat) : Int) = outK ss ws nn by unfold cutV; simp)
            have hm0' : (((0 : Nat) : Int) != 0) = false := rfl
            by_cases hne : nn = ws.length
            · subst hne
              go_wp2_with (at_builtin; refine wpList_copied rfl (.tmp 89) (.tmp 90) 46 rfl 9 i0 (.string ByteArray.empty) 1 16 Try.underlying46 HI.out.1 HI.out.2.1 HI.out.2.2.1 HI.out.2.2.2 rfl (by decide) w.heap.size rfl (blk_alloc_at _ _ _ rfl) (some ⟨ba, oa, none⟩) ss.length ca (strV ss) rfl ?qa (fun j _ => strV_one _ j) (by omega) ?_)
              case qa => exact HA.out.fr0 ((Fr.refl [] w).alloc _)
              intro g cg w1 ho hF1 hg
              replace ho : w1.ownsRow 0 9 1 (.slice (some ⟨g, 0, none⟩) ss.length cg) ss.length (strs ss ss.length) := ho
              have hF : Fr [] w w1 := ((Fr.refl [] w).alloc (.cells #[] 9)).step hF1 (by intro x hx; simp at hx; subst hx; exact .inr (Nat.le_refl _))
              have hg' : w.heap.size ≤ g := by rcases hg with h | h <;> first | omega | (simp at h; omega)
              obtain ⟨_, _, he, hcg1, hcg2⟩ := ownsRow_shape ho (by omega)
              cases he
              have hW := owns_W ho (strV ss) (fun j hj => strs_get _ _ j (by omega))
              have HW := hid (And.intro hF (And.intro hg' (And.intro hcg1 (And.intro hcg2 hW))))
              have hgw := hg'
              clear ho hF hF1 hg hg' hcg1 hcg2 hW
              go_wp2_with fail
              go_loopw [14] (fun i wr => ∃ k : Nat, k ≤ ws.length ∧ i = .int .i64 k ∧ Fr [] w wr ∧ WRow wr 9 1 (some ⟨g, 0, none⟩) ss.length (strV (outK ss ws k))) (fun i _ => ws.length - (intOf i).toNat)
              case atStart => exact ⟨0, Nat.zero_le _, rfl, HW.out.1, HW.out.2.2.2.2⟩
              case round =>
                obtain ⟨k, hk, rfl, hF, hW⟩ := hrel
                by_cases hlt : k < ws.length
                · obtain ⟨bb, ob, rfl⟩ := HB.out.sm (by omega)
                  have c1 := hF.cell0 (HB.out.cell bb ob rfl (k * 2) (by omega))
                  have c2 := hF.cell0 (HB.out.cell bb ob rfl (k * 2 + 1) (by omega))
                  rw [wrV_0] at c1
                  rw [wrV_1, ← Nat.add_assoc] at c2
                  obtain ⟨r1, r2⟩ := HRG.out.1 k (by omega)
                  obtain ⟨q, hq⟩ : ∃ q : Nat, (wAt ws k).1 = q := ⟨(wAt ws k).1.toNat, by omega⟩
                  rw [hq] at c1 r1 r2
                  have hq2 : q < ss.length := by omega
                  have d1 := hW.cell q (by omega)
                  have f1 := hW.free q
                  rw [Nat.zero_add] at d1 f1
                  have HX := hid (And.intro hF (And.intro hW hq))
                  generalize hx : (wAt ws k).2 = x at c2
                  have HXX := hid hx
                  clear hF hW hq hx
                  go_wp2_with fail
                  go_region
                  go_wp2_with fail
                  go_roundw
                  case rel =>
                    have hs : outK ss ws (k + 1) = (outK ss ws k).set q x := by rw [outK_succ _ _ _ (by omega), HX.out.2.2, HXX.out]; rfl
                    have hst := HX.out.2.1.set q (.string x)
                    refine ⟨k + 1, by omega, by go_num, (HX.out.1.setCell (p := ⟨g, q, none⟩) (.inr hgw) _).drew, ?_⟩
                    rw [hs]
                    refine WRow.congr (V := fun i => if i = q then .string x else strV (outK ss ws k) i) hst fun j hj => ?_
                    unfold strV
                    rw [sAt_set _ _ _ _ (by rw [outK_len]; exact hq2)]
                    by_cases hj2 : j = q
                    · rw [if_pos hj2, if_pos hj2]
                    · rw [if_neg hj2, if_neg hj2]
                  case measure => simp [intOf]; omega
                · obtain rfl : k = ws.length := by omega
                  have HX := hid (And.intro hF hW)
                  clear hF hW
                  go_wp2_with fail
                  go_ret2
                  exact ⟨HX.out.1, .inr ⟨HE0.out, by rw [HV.out]; exact outK_len _ _ _, g, _, rfl, hgw, HW.out.2.2.1, HW.out.2.2.2.1, by rw [HV.out]; exact HX.out.2⟩⟩
            · have hne' : ((nn : Int) == (ws.length : Int)) = false := by rw [beq_eq_false_iff_ne]; omega
              have HNE := hid hne
              clear hne
              go_wp2_with (at_builtin; refine wpList_copied rfl (.tmp 89) (.tmp 90) 46 rfl 9 i0 (.string ByteArray.empty) 1 16 Try.underlying46 HI.out.1 HI.out.2.1 HI.out.2.2.1 HI.out.2.2.2 rfl (by decide) w.heap.size rfl (blk_alloc_at _ _ _ rfl) (some ⟨ba, oa, none⟩) ss.length ca (strV ss) rfl ?qa (fun j _ => strV_one _ j) (by omega) ?_)
              case qa => exact HA.out.fr0 ((Fr.refl [] w).alloc _)
              intro g cg w1 ho hF1 hg
              replace ho : w1.ownsRow 0 9 1 (.slice (some ⟨g, 0, none⟩) ss.length cg) ss.length (strs ss ss.length) := ho
              have hF : Fr [] w w1 := ((Fr.refl [] w).alloc (.cells #[] 9)).step hF1 (by intro x hx; simp at hx; subst hx; exact .inr (Nat.le_refl _))
              have hg' : w.heap.size ≤ g := by rcases hg with h | h <;> first | omega | (simp at h; omega)
              obtain ⟨_, _, he, hcg1, hcg2⟩ := ownsRow_shape ho (by omega)
              cases he
              have hW := owns_W ho (strV ss) (fun j hj => strs_get _ _ j (by omega))
              have HW := hid (And.intro hF (And.intro hg' (And.intro hcg1 (And.intro hcg2 hW))))
              have hgw := hg'
              clear ho hF hF1 hg hg' hcg1 hcg2 hW
              go_wp2_with fail
              go_loopw [14] (fun i wr => ∃ k : Nat, k ≤ nn ∧ i = .int .i64 k ∧ Fr [] w wr ∧ WRow wr 9 1 (some ⟨g, 0, none⟩) ss.length (strV (outK ss ws k))) (fun i _ => nn - (intOf i).toNat)
              case atStart => exact ⟨0, Nat.zero_le _, rfl, HW.out.1, HW.out.2.2.2.2⟩
              case round =>
                obtain ⟨k, hk, rfl, hF, hW⟩ := hrel
                by_cases hlt : k < nn
                · obtain ⟨bb, ob, rfl⟩ := HB.out.sm (by omega)
                  have c1 := hF.cell0 (HB.out.cell bb ob rfl (k * 2) (by omega))
                  have c2 := hF.cell0 (HB.out.cell bb ob rfl (k * 2 + 1) (by omega))
                  rw [wrV_0] at c1
                  rw [wrV_1, ← Nat.add_assoc] at c2
                  obtain ⟨r1, r2⟩ := HRG.out.1 k (by omega)
                  obtain ⟨q, hq⟩ : ∃ q : Nat, (wAt ws k).1 = q := ⟨(wAt ws k).1.toNat, by omega⟩
                  rw [hq] at c1 r1 r2
                  have hq2 : q < ss.length := by omega
                  have d1 := hW.cell q (by omega)
                  have f1 := hW.free q
                  rw [Nat.zero_add] at d1 f1
                  have HX := hid (And.intro hF (And.intro hW hq))
                  generalize hx : (wAt ws k).2 = x at c2
                  have HXX := hid hx
                  clear hF hW hq hx
                  go_wp2_with fail
                  go_region
                  go_wp2_with fail
                  go_roundw
                  case rel =>
                    have hs : outK ss ws (k + 1) = (outK ss ws k).set q x := by rw [outK_succ _ _ _ (by omega), HX.out.2.2, HXX.out]; rfl
                    have hst := HX.out.2.1.set q (.string x)
                    refine ⟨k + 1, by omega, by go_num, (HX.out.1.setCell (p := ⟨g, q, none⟩) (.inr hgw) _).drew, ?_⟩
                    rw [hs]
                    refine WRow.congr (V := fun i => if i = q then .string x else strV (outK ss ws k) i) hst fun j hj => ?_
                    unfold strV
                    rw [sAt_set _ _ _ _ (by rw [outK_len]; exact hq2)]
                    by_cases hj2 : j = q
                    · rw [if_pos hj2, if_pos hj2]
                    · rw [if_neg hj2, if_neg hj2]
                  case measure => simp [intOf]; omega
                · obtain rfl : k = nn := by omega
                  have HX := hid (And.intro hF hW)
                  clear hF hW
                  go_wp2_with fail
                  go_ret2
                  exact ⟨HX.out.1, .inr ⟨HE0.out, by rw [HV.out]; exact outK_len _ _ _, g, _, rfl, hgw, HW.out.2.2.1, HW.out.2.2.2.1, by rw [HV.out]; exact HX.out.2⟩⟩
          · have hne : nn ≠ ws.length := fun h => hm0 (HMN.out h)
            have hne' : ((nn : Int) == (ws.length : Int)) = false := by rw [beq_eq_false_iff_ne]; omega
            have hnl2 : nn < ws.length := by omega
            have hm1 : (0 : Int) < mm := by omega
            clear hne hm0
            go_wp2_with (at_builtin; refine wpList_copied rfl (.tmp 89) (.tmp 90) 46 rfl 9 i0 (.string ByteArray.empty) 1 16 Try.underlying46 HI.out.1 HI.out.2.1 HI.out.2.2.1 HI.out.2.2.2 rfl (by decide) w.heap.size rfl (blk_alloc_at _ _ _ rfl) (some ⟨ba, oa, none⟩) ss.length ca (strV ss) rfl ?qa (fun j _ => strV_one _ j) (by omega) ?_)
            case qa => exact HA.out.fr0 ((Fr.refl [] w).alloc _)
            intro g cg w1 ho hF1 hg
            replace ho : w1.ownsRow 0 9 1 (.slice (some ⟨g, 0, none⟩) ss.length cg) ss.length (strs ss ss.length) := ho
            have hF : Fr [] w w1 := ((Fr.refl [] w).alloc (.cells #[] 9)).step hF1 (by intro x hx; simp at hx; subst hx; exact .inr (Nat.le_refl _))
            have hg' : w.heap.size ≤ g := by rcases hg with h | h <;> first | omega | (simp at h; omega)
            obtain ⟨_, _, he, hcg1, hcg2⟩ := ownsRow_shape ho (by omega)
            cases he
            have hW := owns_W ho (strV ss) (fun j hj => strs_get _ _ j (by omega))
            have HW := hid (And.intro hF (And.intro hg' (And.intro hcg1 (And.intro hcg2 hW))))
            have hgw := hg'
            clear ho hF hF1 hg hg' hcg1 hcg2 hW
            go_wp2_with fail
            go_loopw [14] (fun i wr => ∃ k : Nat, k ≤ nn ∧ i = .int .i64 k ∧ Fr [] w wr ∧ WRow wr 9 1 (some ⟨g, 0, none⟩) ss.length (strV (outK ss ws k))) (fun i _ => nn - (intOf i).toNat)
            case atStart => exact ⟨0, Nat.zero_le _, rfl, HW.out.1, HW.out.2.2.2.2⟩
            case round =>
              obtain ⟨k, hk, rfl, hF, hW⟩ := hrel
              by_cases hlt : k < nn
              · obtain ⟨bb, ob, rfl⟩ := HB.out.sm (by omega)
                have c1 := hF.cell0 (HB.out.cell bb ob rfl (k * 2) (by omega))
                have c2 := hF.cell0 (HB.out.cell bb ob rfl (k * 2 + 1) (by omega))
                rw [wrV_0] at c1
                rw [wrV_1, ← Nat.add_assoc] at c2
                obtain ⟨r1, r2⟩ := HRG.out.1 k (by omega)
                obtain ⟨q, hq⟩ : ∃ q : Nat, (wAt ws k).1 = q := ⟨(wAt ws k).1.toNat, by omega⟩
                rw [hq] at c1 r1 r2
                have hq2 : q < ss.length := by omega
                have d1 := hW.cell q (by omega)
                have f1 := hW.free q
                rw [Nat.zero_add] at d1 f1
                have HX := hid (And.intro hF (And.intro hW hq))
                generalize hx : (wAt ws k).2 = x at c2
                have HXX := hid hx
                clear hF hW hq hx
                go_wp2_with fail
                go_region
                go_wp2_with fail
                go_roundw
                case rel =>
                  have hs : outK ss ws (k + 1) = (outK ss ws k).set q x := by rw [outK_succ _ _ _ (by omega), HX.out.2.2, HXX.out]; rfl
                  have hst := HX.out.2.1.set q (.string x)
                  refine ⟨k + 1, by omega, by go_num, (HX.out.1.setCell (p := ⟨g, q, none⟩) (.inr hgw) _).drew, ?_⟩
                  rw [hs]
                  refine WRow.congr (V := fun i => if i = q then .string x else strV (outK ss ws k) i) hst fun j hj => ?_
                  unfold strV
                  rw [sAt_set _ _ _ _ (by rw [outK_len]; exact hq2)]
                  by_cases hj2 : j = q
                  · rw [if_pos hj2, if_pos hj2]
                  · rw [if_neg hj2, if_neg hj2]
                case measure => simp [intOf]; omega
              · obtain rfl : k = nn := by omega
                have HX := hid (And.intro hF hW)
                clear hF hW
                obtain ⟨bb, ob, rfl⟩ := HB.out.sm (by omega)
                have c1 := HX.out.1.cell0 (HB.out.cell bb ob rfl (k * 2) (by omega))
                have c2 := HX.out.1.cell0 (HB.out.cell bb ob rfl (k * 2 + 1) (by omega))
                rw [wrV_0] at c1
                rw [wrV_1, ← Nat.add_assoc] at c2
                obtain ⟨r1, r2⟩ := HRG.out.1 k (by omega)
                have hx128 := HRG.out.2.2 k (by omega)
                obtain ⟨q, hq⟩ : ∃ q : Nat, (wAt ws k).1 = q := ⟨(wAt ws k).1.toNat, by omega⟩
                rw [hq] at c1 r1 r2
                have hq2 : q < ss.length := by omega
                have hy128 := outK_size HRG.out.2.1 HRG.out.2.2 k (by omega) q hq2
                have hIo := HX.out.2.toIn HW.out.2.2.1 HW.out.2.2.2.1
                have hlo := outK_len ss ws k
                have HV := hid (show cutV ss ws (k : Int) (mm : Int) = (outK ss ws k).set q (cutB (wAt ws k).2 (sAt (outK ss ws k) q) mm) by
                  unfold cutV
                  rw [if_pos (by omega)]
                  simp only [Int.toNat_natCast]
                  rw [hq]; rfl)
                generalize hx : (wAt ws k).2 = x at c2 hx128 HV
                have HLd := hid (fun (wx : World) (hF : Fr [] wr wx) => ref_laid wx (some ⟨g, 0, none⟩) cg (outK ss ws k) (by rw [hlo]; exact hIo.fr0 hF) q mm x (by rw [hlo]; exact hq2) (by rw [hlo]; omega) hx128 hy128 (by omega))
                have HLO := hid hlo
                rw [HLO.out] at HLd
                clear hx hq hx128 hy128 hIo hlo
                go_wp2_with fail
                go_region_held3 (fun wx : World => wx.cell? ⟨bb, ob + k * 2, none⟩ = some (.int .i64 q) ∧ wx.cell? ⟨bb, ob + k * 2 + 1, none⟩ = some (.string x)) ((first | exact ⟨c1, c2⟩ | exact hNow))
                  (first | (go_at_call 64; refine (HLd.out _ ((Fr.refl [] wr).drew)).mono ?_; rintro e w5 ⟨g5, c5, rfl, hF5, hg5, ho5⟩; have hNow := And.intro (hF5.cell0 (w := wr.drew) c1) (hF5.cell0 (w := wr.drew) c2); have H5 := hid (And.intro hF5 (And.intro hg5 ho5)); clear hF5 hg5 ho5))
                go_wp2_with fail
                go_ret2
                obtain ⟨_, _, he, hc1, hc2⟩ := ownsRow_shape H5.out.2.2 (by omega)
                cases he
                have hl9 : ((outK ss ws k).set q (cutB x (sAt (outK ss ws k) q) mm)).length = ss.length := by rw [List.length_set]; exact HLO.out
                have hW9 := owns_W H5.out.2.2 (strV ((outK ss ws k).set q (cutB x (sAt (outK ss ws k) q) mm))) (fun j hj => strs_get _ _ j (by omega))
                exact ⟨HX.out.1.drew.trans H5.out.1, .inr ⟨HE0.out, by rw [HV.out]; exact hl9, g5, _, rfl, Nat.le_trans HX.out.1.size H5.out.2.1, hc1, hc2, by rw [HV.out]; exact hW9⟩⟩

end Go.Proofs.Ytkkahkgjedgjnaa
