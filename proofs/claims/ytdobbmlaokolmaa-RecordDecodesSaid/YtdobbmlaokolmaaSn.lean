/-
  gafferref08: Same.
-/
import Derived.Test.YtdobbmlaokolmaaSm
namespace Go.Proofs.Ytdobbmlaokolmaa
open Go.RowKit
set_option linter.unusedVariables false
set_option linter.unusedSimpArgs false

set_option maxHeartbeats 4000000 in
set_option maxRecDepth 100000 in
theorem same_walk (w : World) (a b : Option Addr) (n m ca cb : Nat) (l r : List (CV × TS)) (ha : ChIn w a n ca l) (hb : ChIn w b m cb r) :
    Calls Try.prog 17 #[.slice a n ca, .slice b m cb] w fun e w' => IsB (l.map (·.1) = r.map (·.1)) e ∧ Fr [] w w' := by
  have hm1 := ha.row.max
  have hm2 := hb.row.max
  have hll : (l.map (·.1)).length = n := by rw [List.length_map, ha.len]
  have hlr : (r.map (·.1)).length = m := by rw [List.length_map, hb.len]
  by_cases hl : n = m
  case neg =>
    have h1 : ((n : Int) == m) = false := by rw [beq_eq_false_iff_ne]; omega
    have h2 : ((n : Int) != m) = true := by rw [bne_iff_ne]; omega
    have HL := hid (show ¬ l.map (·.1) = r.map (·.1) from fun h => hl (by rw [← hll, ← hlr, h]))
    clear hl ha hb hll hlr
    go_enter Try.func17, Try.ntmps17
    go_wp2
    go_ret
    exact ⟨IsB.no HL.out, Fr.refl _ _⟩
  subst hl
  have HA := hid ha
  have HB := hid hb
  have HL := hid (And.intro hll hlr)
  clear ha hb hll hlr
  go_enter Try.func17, Try.ntmps17
  go_wp2_with fail
  go_loopw [5] (fun i wr => ∃ k : Nat, k ≤ n ∧ i = .int .i64 k ∧ (∀ j, j < k → (l.map (·.1))[j]? = (r.map (·.1))[j]?) ∧ Fr [] w wr) (fun i _ => n - (intOf i).toNat)
  case atStart => exact ⟨0, Nat.zero_le _, rfl, fun j hj => absurd hj (Nat.not_lt_zero _), Fr.refl _ _⟩
  case round =>
    obtain ⟨k, hk, rfl, hall, hFw⟩ := hrel
    have HAll := hid hall
    clear hall
    by_cases hlt : k < n
    · obtain ⟨ba, oa, rfl⟩ := HA.out.row.sm (by omega)
      obtain ⟨bb, ob, rfl⟩ := HB.out.row.sm (by omega)
      obtain ⟨x, hx⟩ : ∃ x, cL.nth l k = x := ⟨_, rfl⟩
      obtain ⟨y, hy⟩ : ∃ y, cL.nth r k = y := ⟨_, rfl⟩
      have hkl : k < l.length := by rw [HA.out.len]; exact hlt
      have hkr : k < r.length := by rw [HB.out.len]; exact hlt
      have hgx : (l.map (·.1))[k]? = some x.1 := by rw [List.getElem?_map, show l[k]? = some x by rw [← hx]; exact cL.nth_get hkl]; rfl
      have hgy : (r.map (·.1))[k]? = some y.1 := by rw [List.getElem?_map, show r[k]? = some y by rw [← hy]; exact cL.nth_get hkr]; rfl
      have hC := And.intro (ch_cells (HA.out.row.fr0 hFw.drew) k hlt x hx) (ch_cells (HB.out.row.fr0 hFw.drew) k hlt y hy)
      have hs := sameOne_walk wr.drew x.1 y.1 x.2 y.2 ((HA.out.one x (by rw [← hx]; exact cL.mem_nth hkl)).1.fr0 hFw.drew) ((HB.out.one y (by rw [← hy]; exact cL.mem_nth hkr)).1.fr0 hFw.drew)
      have HCC := hid (show ∀ w2, Fr [] wr.drew w2 → (fun wx : World => (wx.cell? ⟨ba, oa + k * 10, none⟩ = some (.int .i64 x.1.kind) ∧ wx.cell? ⟨ba, oa + k * 10 + 1, none⟩ = some (.int .i64 x.1.n) ∧ wx.cell? ⟨ba, oa + k * 10 + 2, none⟩ = some (.int .i64 x.1.job) ∧ wx.cell? ⟨ba, oa + k * 10 + 3, none⟩ = some (.int .i64 x.1.badge) ∧ wx.cell? ⟨ba, oa + k * 10 + 4, none⟩ = some (.int .i64 x.1.slot) ∧ wx.cell? ⟨ba, oa + k * 10 + 5, none⟩ = some (.int .i64 x.1.life) ∧ wx.cell? ⟨ba, oa + k * 10 + 6, none⟩ = some (.int .i64 x.1.code) ∧ wx.cell? ⟨ba, oa + k * 10 + 7, none⟩ = some (.int .u64 x.1.bits) ∧ wx.cell? ⟨ba, oa + k * 10 + 8, none⟩ = some (.string x.1.prog) ∧ wx.cell? ⟨ba, oa + k * 10 + 9, none⟩ = some (.slice x.2.a x.1.texts.length x.2.c)) ∧ (wx.cell? ⟨bb, ob + k * 10, none⟩ = some (.int .i64 y.1.kind) ∧ wx.cell? ⟨bb, ob + k * 10 + 1, none⟩ = some (.int .i64 y.1.n) ∧ wx.cell? ⟨bb, ob + k * 10 + 2, none⟩ = some (.int .i64 y.1.job) ∧ wx.cell? ⟨bb, ob + k * 10 + 3, none⟩ = some (.int .i64 y.1.badge) ∧ wx.cell? ⟨bb, ob + k * 10 + 4, none⟩ = some (.int .i64 y.1.slot) ∧ wx.cell? ⟨bb, ob + k * 10 + 5, none⟩ = some (.int .i64 y.1.life) ∧ wx.cell? ⟨bb, ob + k * 10 + 6, none⟩ = some (.int .i64 y.1.code) ∧ wx.cell? ⟨bb, ob + k * 10 + 7, none⟩ = some (.int .u64 y.1.bits) ∧ wx.cell? ⟨bb, ob + k * 10 + 8, none⟩ = some (.string y.1.prog) ∧ wx.cell? ⟨bb, ob + k * 10 + 9, none⟩ = some (.slice y.2.a y.1.texts.length y.2.c))) w2 from fun w2 hF2 => ⟨⟨hF2.cell0 hC.1.1, hF2.cell0 hC.1.2.1, hF2.cell0 hC.1.2.2.1, hF2.cell0 hC.1.2.2.2.1, hF2.cell0 hC.1.2.2.2.2.1, hF2.cell0 hC.1.2.2.2.2.2.1, hF2.cell0 hC.1.2.2.2.2.2.2.1, hF2.cell0 hC.1.2.2.2.2.2.2.2.1, hF2.cell0 hC.1.2.2.2.2.2.2.2.2.1, hF2.cell0 hC.1.2.2.2.2.2.2.2.2.2⟩, ⟨hF2.cell0 hC.2.1, hF2.cell0 hC.2.2.1, hF2.cell0 hC.2.2.2.1, hF2.cell0 hC.2.2.2.2.1, hF2.cell0 hC.2.2.2.2.2.1, hF2.cell0 hC.2.2.2.2.2.2.1, hF2.cell0 hC.2.2.2.2.2.2.2.1, hF2.cell0 hC.2.2.2.2.2.2.2.2.1, hF2.cell0 hC.2.2.2.2.2.2.2.2.2.1, hF2.cell0 hC.2.2.2.2.2.2.2.2.2.2⟩⟩)
      have hs := hid hs
      have HG := hid (And.intro hgx (And.intro hgy hFw))
      clear hx hy hkl hkr hgx hgy hFw
      go_wp2_with fail
      go_region_held3 (fun wx : World => (wx.cell? ⟨ba, oa + k * 10, none⟩ = some (.int .i64 x.1.kind) ∧ wx.cell? ⟨ba, oa + k * 10 + 1, none⟩ = some (.int .i64 x.1.n) ∧ wx.cell? ⟨ba, oa + k * 10 + 2, none⟩ = some (.int .i64 x.1.job) ∧ wx.cell? ⟨ba, oa + k * 10 + 3, none⟩ = some (.int .i64 x.1.badge) ∧ wx.cell? ⟨ba, oa + k * 10 + 4, none⟩ = some (.int .i64 x.1.slot) ∧ wx.cell? ⟨ba, oa + k * 10 + 5, none⟩ = some (.int .i64 x.1.life) ∧ wx.cell? ⟨ba, oa + k * 10 + 6, none⟩ = some (.int .i64 x.1.code) ∧ wx.cell? ⟨ba, oa + k * 10 + 7, none⟩ = some (.int .u64 x.1.bits) ∧ wx.cell? ⟨ba, oa + k * 10 + 8, none⟩ = some (.string x.1.prog) ∧ wx.cell? ⟨ba, oa + k * 10 + 9, none⟩ = some (.slice x.2.a x.1.texts.length x.2.c)) ∧ (wx.cell? ⟨bb, ob + k * 10, none⟩ = some (.int .i64 y.1.kind) ∧ wx.cell? ⟨bb, ob + k * 10 + 1, none⟩ = some (.int .i64 y.1.n) ∧ wx.cell? ⟨bb, ob + k * 10 + 2, none⟩ = some (.int .i64 y.1.job) ∧ wx.cell? ⟨bb, ob + k * 10 + 3, none⟩ = some (.int .i64 y.1.badge) ∧ wx.cell? ⟨bb, ob + k * 10 + 4, none⟩ = some (.int .i64 y.1.slot) ∧ wx.cell? ⟨bb, ob + k * 10 + 5, none⟩ = some (.int .i64 y.1.life) ∧ wx.cell? ⟨bb, ob + k * 10 + 6, none⟩ = some (.int .i64 y.1.code) ∧ wx.cell? ⟨bb, ob + k * 10 + 7, none⟩ = some (.int .u64 y.1.bits) ∧ wx.cell? ⟨bb, ob + k * 10 + 8, none⟩ = some (.string y.1.prog) ∧ wx.cell? ⟨bb, ob + k * 10 + 9, none⟩ = some (.slice y.2.a y.1.texts.length y.2.c))) ((first | exact hNow | exact hC))
        ((go_at_call 13; refine hs.out.mono ?_; rintro e w2 ⟨⟨z, rfl, hz⟩, hF2⟩; have hNow := HCC.out w2 hF2; have HZ := hid (And.intro hz hF2)))
      cases z
      · go_wp2_with fail
        go_ret
        exact ⟨IsB.no (fun h => absurd (by have h1 := HG.out.1; rw [h, HG.out.2.1] at h1; exact HZ.out.1.2 (Option.some.inj h1).symm) (by decide)), HG.out.2.2.drew.trans HZ.out.2⟩
      · go_wp2_with fail
        go_roundw
        case rel =>
          refine ⟨k + 1, by omega, by go_num, fun j hj => ?_, HG.out.2.2.drew.trans HZ.out.2⟩
          by_cases hjk : j = k
          · subst hjk; rw [HG.out.1, HG.out.2.1, HZ.out.1.1 rfl]
          · exact HAll.out j (by omega)
        case measure => simp [intOf]; omega
    · obtain rfl : k = n := by omega
      have HE := hid (show l.map (·.1) = r.map (·.1) from List.ext_getElem? fun j => by
        by_cases hj : j < k
        · exact HAll.out j hj
        · rw [List.getElem?_eq_none (by have := HL.out.1; omega), List.getElem?_eq_none (by have := HL.out.2; omega)])
      go_wp2_with fail
      go_ret
      exact ⟨IsB.yes HE.out, hFw⟩

end Go.Proofs.Ytdobbmlaokolmaa
