/-
  The walk of DiskLoads.
-/
import Derived.Test.YtkkahkgjedgjnaaPlayed
import Derived.Test.YtkkahkgjedgjnaaInD
namespace Go.Proofs.Ytkkahkgjedgjnaa
open Go.RowKit
set_option linter.unusedVariables false
set_option linter.unusedSimpArgs false

def behind : ByteArray := ⟨#[98, 101, 104, 105, 110, 100]⟩

/-- What Loads' own list is: n texts and one more. -/
theorem own_in {W : Base} {w : World} {R : List Thing} (H : St W w R) (i : Nat) {g c n : Nat} {xs : List Value} (hi : R[i]? = some (RowT 9 1 (.slice (some ⟨g, 0, none⟩) (n + 1) c) (n + 1) xs)) (V : Nat → Value) (hV : ∀ j, j < n → xs[j]? = some (V j)) :
    In w 1 (some ⟨g, 0, none⟩) n c V := by
  have ho := H.row i hi
  obtain ⟨g', c', he, h1, h2⟩ := ownsRow_shape ho (by omega)
  cases he
  refine ⟨by omega, h2, fun _ => ⟨g, 0, rfl⟩, fun b off e j hj => ?_⟩
  cases e
  rw [Nat.zero_add]
  exact (ownsRow_cell ho j (hV j (by omega))).1

set_option maxHeartbeats 3200000 in
set_option maxRecDepth 100000 in
theorem loads04_any (w : World) (a : Option Addr) (na ca : Nat) (ss : List ByteArray) (hna : ss.length = na) (ha : In w 1 a na ca (strV ss)) (hn : na * 16 ≤ 140737488351232)
    (s : Option Addr) (ns cs : Nat) (U : Nat → Value) (hT : SlIn w 5 48 s ns cs U) (hq0 : ∀ i, i < ns → I64 (U (i * 5))) (hq1 : ∀ i, i < ns → I64 (U (i * 5 + 1))) (hq2 : ∀ i, i < ns → I64 (U (i * 5 + 2))) (hq3 : ∀ i, i < ns → I64 (U (i * 5 + 3))) (hq4 : ∀ i, i < ns → Str (U (i * 5 + 4))) :
    Calls Try.prog 14 #[.slice a na ca, .slice s ns cs] w fun e w' => e = .returned (.bool true) ∧ Fr [] w w' := by
  subst hna
  have hma := ha.max
  have HA := hid ha
  obtain ⟨i0, hi, hz0, hz1, hz2⟩ := info_parts info_string
  have HI := hid (And.intro hi (And.intro hz0 (And.intro hz1 hz2)))
  have HP := hid (fun (hok : okSecs ss) w1 D X (h : St (.of w) w1 [DkT D (DS.of ss), XkT X (DS.of ss)]) => played_any h (of_wf hok) rfl s ns cs U hT hq0 hq1 hq2 hq3 hq4)
  clear hq0 hq1 hq2 hq3 hq4 hT hi hz0 hz1 hz2 ha
  go_enter Try.func14, Try.ntmps14
  go_wp2_with (at_builtin; refine wpList_copied rfl (.tmp 11) (.tmp 12) 46 rfl 9 i0 (.string ByteArray.empty) 1 16 Try.underlying46 HI.out.1 HI.out.2.1 HI.out.2.2.1 HI.out.2.2.2 rfl (by decide) w.heap.size rfl (blk_alloc_at _ _ _ rfl) a ss.length ca (strV ss) rfl ?qa (fun j _ => strV_one _ j) (by omega) ?_)
  case qa => exact HA.out.fr0 ((Fr.refl [] w).alloc _)
  intro g1 c1 w1 ho1 hF1 hg1
  replace ho1 : w1.ownsRow 0 9 1 (.slice (some ⟨g1, 0, none⟩) ss.length c1) ss.length (strs ss ss.length) := ho1
  have hF : Fr [] w w1 := ((Fr.refl [] w).alloc (.cells #[] 9)).step hF1 (by intro x hx; simp at hx; subst hx; exact .inr (Nat.le_refl _))
  have hg1' : w.heap.size ≤ g1 := by rcases hg1 with h | h <;> first | omega | (simp at h; omega)
  have H1 := hid (And.intro ho1 (And.intro hF hg1'))
  clear ho1 hF hg1' hF1 hg1
  go_wp2_with (at_builtin; refine wpList_append_blk rfl (.tmp 13) (.tmp 14) 46 rfl 9 i0 (.string ByteArray.empty) 1 16 Try.underlying46 HI.out.1 HI.out.2.1 HI.out.2.2.1 HI.out.2.2.2 rfl (by decide) (.slice (some ⟨g1, 0, none⟩) ss.length c1) ss.length _ rfl (ownsRow_keep (S := []) H1.out.1 ((Fr.refl [] w1).alloc _) (by simp)) ⟨w1.heap.size, 0, none⟩ 1 1 [Value.string behind] rfl rfl ?qb ?qc ?qd ?qe ?_)
  case qb => exact news_alloc w1 [Value.string behind] _
  case qc => intro u hu; simp at hu; subst hu; rfl
  case qd => unfold maxLen; omega
  case qe => omega
  intro v2 w2 ho2 hF2 hb2 hn2
  obtain ⟨g, c, rfl, hc1, hc2⟩ := ownsRow_shape ho2 (by omega)
  have hF02 : Fr [] w w2 := (H1.out.2.1.alloc (.cells #[Value.string behind] 9)).step hF2 (by intro x hx; simp [Value.ownBlock] at hx; subst hx; exact .inr H1.out.2.2)
  have hg : w.heap.size ≤ g := by
    have h1 := hb2 g (by simp [Value.ownBlock])
    have h2 := H1.out.2.1.size
    have h3 := H1.out.2.2
    rcases h1 with h | h
    · simp [Value.ownBlock] at h; omega
    · first | omega | (simp at h; omega)
  have H : St (.of w) w2 [RowT 9 1 (.slice (some ⟨g, 0, none⟩) (ss.length + 1) c) (ss.length + 1) (strs ss ss.length ++ [Value.string behind])] :=
    (St.refl w).new (A := Row1 _ _ _ _ _) (F := [g]) hF02 inferInstance ⟨rfl, ho2⟩ (by simpa using hg)
  have hV : ∀ j, j < ss.length → (strs ss ss.length ++ [Value.string behind])[j]? = some (strV ss j) := fun j hj => by
    rw [List.getElem?_append_left (by rw [strs_len]; exact hj)]; exact strs_get _ _ _ hj
  have hVl : (strs ss ss.length ++ [Value.string behind])[ss.length]? = some (.string behind) := by
    rw [List.getElem?_append_right (by rw [strs_len]; exact Nat.le_refl _), strs_len]; simp
  have hlm : (strs ss ss.length ++ [Value.string behind]).length = ss.length + 1 := by simp [strs_len]
  have hcm : c ≤ 9223372036854775807 := by unfold maxLen at hc2; exact hc2
  have hc1' : ss.length + 1 ≤ c := hc1
  have HV := hid (And.intro hV (And.intro hVl hlm))
  clear ho2 hF2 hb2 hn2 hF02 hg hV hVl hlm hc2 H1
  generalize strs ss ss.length ++ [Value.string behind] = xs at H HV
  go_wp2_with fail
  refine (disk_load w2 (some ⟨g, 0, none⟩) c ss (own_in H 0 rfl _ HV.out.1)).mono ?_
  rintro e w3 ⟨hF3, ⟨hbad, code, hcode, hle, rfl⟩ | ⟨hok, D, F, rfl, hDk, hFs⟩⟩
  · replace H := H.same hF3
    have HR := hid (ref_load_bad w3 a ca ss (HA.out.fr0 H.fr) hbad)
    have HL := hid hle
    rw [← HL.out] at HR
    clear hbad hF3 hle
    rcases hcode with rfl | rfl
    all_goals
      go_wp2_with fail
      refine HR.out.mono ?_
      rintro e w4 ⟨rfl, rfl⟩
      go_wp2_with fail
      refine (st_same H (own_in H 0 rfl _ HV.out.1) (HA.out.fr0 H.fr)).mono ?_
      clear H
      rintro e w5 ⟨rfl, H⟩
      have hbl : w5.cell? ⟨g, ss.length, none⟩ = some (.string ⟨#[98, 101, 104, 105, 110, 100]⟩) := (ownsRow_cell (H.row 0 rfl) _ HV.out.2.1).1
      go_wp2_with fail
      obtain ⟨wo, rfl⟩ : ∃ wo : World, wo = w5 := ⟨_, rfl⟩
      have HW := hid H
      go_loopw [10] (fun i wr => ∃ (k : Nat) (ys : List Value), k ≤ ss.length ∧ i = .int .i64 k ∧ ys.length = ss.length + 1 ∧ St (.of w) wr (RowT 9 1 (.slice (some ⟨g, 0, none⟩) (ss.length + 1) c) (ss.length + 1) ys :: [])) (fun i _ => ss.length - (intOf i).toNat)
      case atStart => exact ⟨0, _, Nat.zero_le _, rfl, HV.out.2.2, HW.out⟩
      case round =>
        clear H HW
        obtain ⟨k, ys, hk, rfl, hys, H⟩ := hrel
        have HYS := hid hys
        clear hys
        by_cases hlt : k < ss.length
        · obtain ⟨u, hu⟩ : ∃ u, ys[k]? = some u := ⟨_, List.getElem?_eq_getElem (by have := HYS.out; omega)⟩
          obtain ⟨f1, f2⟩ := ownsRow_cell (H.row 0 rfl) k hu
          clear hu
          have HH := hid H
          clear H
          go_wp2_with fail
          go_roundw
          case rel => exact ⟨k + 1, ys.set k (.string ⟨#[120]⟩), by omega, by go_num, by rw [List.length_set]; exact HYS.out, HH.out.setRowCell 0 rfl k _⟩
          case measure => simp [intOf]; omega
        · go_wp2_with fail
          skip
          refine (fixed04 _).mono ?_
          rintro e w101 ⟨rfl, hF2⟩
          go_wp2_with fail
          go_ret
          exact ⟨rfl, H.fr.trans hF2⟩
  · replace H : St (.of w) w3 [RowT 9 1 (.slice (some ⟨g, 0, none⟩) (ss.length + 1) c) (ss.length + 1) xs, DkT D (DS.of ss)] := H.new hF3 (A := Dk1 D (DS.of ss)) inferInstance hDk hFs
    clear hF3 hDk hFs
    go_wp2_with fail
    refine (st_ref_load H (HA.out.fr0 H.fr) hok).mono ?_
    clear H
    rintro e w102 ⟨X, rfl, H⟩
    try simp only [List.nil_append, List.cons_append, List.set_cons_zero, List.set_cons_succ] at H
    go_wp2_with fail
    refine (st_same H (own_in H 0 rfl _ HV.out.1) (HA.out.fr0 H.fr)).mono ?_
    clear H
    rintro e w5 ⟨rfl, H⟩
    have hbl : w5.cell? ⟨g, ss.length, none⟩ = some (.string ⟨#[98, 101, 104, 105, 110, 100]⟩) := (ownsRow_cell (H.row 0 rfl) _ HV.out.2.1).1
    have HPL := hid (HP.out hok)
    clear hok
    go_wp2_with fail
    obtain ⟨wo, rfl⟩ : ∃ wo : World, wo = w5 := ⟨_, rfl⟩
    have HW := hid H
    go_loopw [10] (fun i wr => ∃ (k : Nat) (ys : List Value), k ≤ ss.length ∧ i = .int .i64 k ∧ ys.length = ss.length + 1 ∧ St (.of w) wr (RowT 9 1 (.slice (some ⟨g, 0, none⟩) (ss.length + 1) c) (ss.length + 1) ys :: [DkT D (DS.of ss), XkT X (DS.of ss)])) (fun i _ => ss.length - (intOf i).toNat)
    case atStart => exact ⟨0, _, Nat.zero_le _, rfl, HV.out.2.2, HW.out⟩
    case round =>
      clear H HW
      obtain ⟨k, ys, hk, rfl, hys, H⟩ := hrel
      have HYS := hid hys
      clear hys
      by_cases hlt : k < ss.length
      · obtain ⟨u, hu⟩ : ∃ u, ys[k]? = some u := ⟨_, List.getElem?_eq_getElem (by have := HYS.out; omega)⟩
        obtain ⟨f1, f2⟩ := ownsRow_cell (H.row 0 rfl) k hu
        clear hu
        have HH := hid H
        clear H
        go_wp2_with fail
        go_roundw
        case rel => exact ⟨k + 1, ys.set k (.string ⟨#[120]⟩), by omega, by go_num, by rw [List.length_set]; exact HYS.out, HH.out.setRowCell 0 rfl k _⟩
        case measure => simp [intOf]; omega
      · go_wp2_with fail
        refine (HPL.out _ D X (H.pick [1, 2] (by decide) rfl (by intro k i hk; match k with | 0 => cases hk; rfl | 1 => cases hk; rfl | k + 2 => simp at hk))).mono ?_
        rintro e w6 ⟨rfl, hF6⟩
        go_wp2_with fail
        refine (fixed04 _).mono ?_
        rintro e w103 ⟨rfl, hF2⟩
        go_wp2_with fail
        go_ret
        exact ⟨rfl, hF6.trans hF2⟩

theorem loads04_walk (w : World) (a : Option Addr) (na ca : Nat) (V : Nat → Value) (hS : SlIn w 1 16 a na ca V) (hq : ∀ i, i < na → Str (V (i * 1)))
    (s : Option Addr) (ns cs : Nat) (U : Nat → Value) (hT : SlIn w 5 48 s ns cs U) (hq0 : ∀ i, i < ns → I64 (U (i * 5))) (hq1 : ∀ i, i < ns → I64 (U (i * 5 + 1))) (hq2 : ∀ i, i < ns → I64 (U (i * 5 + 2))) (hq3 : ∀ i, i < ns → I64 (U (i * 5 + 3))) (hq4 : ∀ i, i < ns → Str (U (i * 5 + 4))) :
    Calls Try.prog 14 #[.slice a na ca, .slice s ns cs] w fun e w' => e = .returned (.bool true) ∧ Fr [] w w' := by
  obtain ⟨ss, hl, hI, h1, _⟩ := strs_of hS hq
  exact loads04_any w a na ca ss hl hI h1 s ns cs U hT hq0 hq1 hq2 hq3 hq4

end Go.Proofs.Ytkkahkgjedgjnaa
