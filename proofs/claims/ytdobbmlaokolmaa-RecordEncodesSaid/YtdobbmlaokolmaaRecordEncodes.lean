/-
  RecordEncodes: the walk.
-/
import Derived.Test.YtdobbmlaokolmaaRecordChecks
import Derived.Test.YtdobbmlaokolmaaX4
import Derived.Test.YtdobbmlaokolmaaSn
namespace Go.Proofs.Ytdobbmlaokolmaa
open Go.RowKit
set_option linter.unusedVariables false
set_option linter.unusedSimpArgs false

theorem ch_bits {w : World} {a : Option Addr} {n cap : Nat} {l : List (CV × TS)} (h : ChIn w a n cap l) : ∀ c, c ∈ l.map (·.1) → 0 ≤ c.bits ∧ c.bits < 18446744073709551616 := by
  intro c hc
  obtain ⟨x, hx, rfl⟩ := List.mem_map.1 hc
  exact (h.one x hx).2

def tB1 : ByteArray := ⟨#[98, 101, 104, 105, 110, 100]⟩
def tB2 : ByteArray := ⟨#[97, 110, 100, 32, 98, 101, 104, 105, 110, 100]⟩
/-- A change's texts, with two behind. -/
def FwX (x : CV × TS) : Thing := RowT 9 1 (.slice x.2.a (x.1.texts.length + 2) x.2.c) (x.1.texts.length + 2) (sL.cells (x.1.texts ++ [tB1, tB2]))
def fws (l : List (CV × TS)) : List Thing := l.map FwX
def m1 : CV × TS := (⟨-1, 0, 0, 0, 0, 0, 0, 0, ⟨#[]⟩, []⟩, ⟨none, 0⟩)
def m2 : CV × TS := (⟨-2, 0, 0, 0, 0, 0, 0, 0, ⟨#[]⟩, []⟩, ⟨none, 0⟩)

theorem in_front {w : World} {e size g m cap n : Nat} {xs : List Value} (h : w.ownsRow 0 e size (.slice (some ⟨g, 0, none⟩) m cap) m xs) (hn : n ≤ m) (V : Nat → Value) (hV : ∀ j, j < n * size → xs[j]? = some (V j)) : In w size (some ⟨g, 0, none⟩) n cap V := by
  have h2 := h
  rcases ownsRow_one h with ⟨h, _⟩ | ⟨g', cap', hv, h3, h4⟩
  · simp at h
  · simp only [Value.slice.injEq, Option.some.injEq, Addr.mk.injEq, and_true, true_and] at hv
    obtain ⟨rfl, rfl⟩ := hv
    refine ⟨by omega, h4, fun _ => ⟨g, 0, rfl⟩, fun b off e j hj => ?_⟩
    simp only [Option.some.injEq, Addr.mk.injEq, and_true] at e
    obtain ⟨rfl, rfl⟩ := e
    rw [Nat.zero_add]
    exact (ownsRow_cell h2 j (hV j hj)).1

theorem cells_app {α : Type} (L : Lay α) (l r : List α) : L.cells (l ++ r) = L.cells l ++ L.cells r := by
  induction r generalizing l with
  | nil => simp [Lay.cells]
  | cons a r ih =>
    have h1 := ih (l ++ [a])
    rw [List.append_assoc] at h1
    have h2 := ih []
    simp only [Lay.cells, List.flatMap_append] at *

section
variable {W w : World} {R : List Thing}
/-- What is behind Copy, and all. -/
def enT (g n : Nat) (l' : List (CV × TS)) (k : Nat) : List Thing := OutT g n (l' ++ [m1, m2]) (n + 2) :: (fws (l'.take k) ++ rws (l'.drop k))
theorem enT_get {g n k : Nat} {l' : List (CV × TS)} {x : CV × TS} (hx : l'[k]? = some x) : (enT g n l' k)[k + 1]? = some (RwX x) := by
  obtain ⟨hk, rfl⟩ := List.getElem?_eq_some_iff.1 hx
  have hl : (fws (l'.take k)).length = k := by simp [fws]; omega
  unfold enT
  rw [List.getElem?_cons_succ, List.getElem?_append_right (by omega), hl, Nat.sub_self, List.drop_eq_getElem_cons hk]
  rfl
theorem enT_set {g n k : Nat} {l' : List (CV × TS)} {x : CV × TS} (hx : l'[k]? = some x) : (enT g n l' k).set (k + 1) (FwX x) = enT g n l' (k + 1) := by
  obtain ⟨hk, rfl⟩ := List.getElem?_eq_some_iff.1 hx
  have hl : (fws (l'.take k)).length = k := by simp [fws]; omega
  unfold enT
  rw [List.set_cons_succ, List.set_append_right _ _ (by omega), hl, Nat.sub_self, List.drop_eq_getElem_cons hk]
  have e : l'.take (k + 1) = l'.take k ++ [l'[k]] := by rw [List.take_add_one, List.getElem?_eq_getElem hk]; rfl
  have e2 : fws (l'.take k ++ [l'[k]]) = fws (l'.take k) ++ [FwX l'[k]] := by simp only [fws, List.map_append, List.map_cons, List.map_nil]
  rw [e, e2, List.append_assoc]
  rfl
theorem enT_all {g n : Nat} {l' : List (CV × TS)} {k : Nat} {x : CV × TS} (hx : l'[k]? = some x) : (enT g n l' l'.length)[k + 1]? = some (FwX x) := by
  unfold enT
  rw [List.getElem?_cons_succ, List.take_length, List.drop_length]
  simp [fws, rws, hx]

theorem St.enOut {g n k : Nat} {l' : List (CV × TS)} (H : St (.of W) w (enT g n l' k)) : w.ownsRow 0 27 10 (.slice (some ⟨g, 0, none⟩) (n + 2) (n + 2)) (n + 2) (cL.cells (l' ++ [m1, m2])) := H.row 0 rfl
theorem St.enIn {g n k : Nat} {l' : List (CV × TS)} (H : St (.of W) w (enT g n l' k)) (hl : l'.length = n) : In w 10 (some ⟨g, 0, none⟩) n (n + 2) (cL.at_ l') := by
  refine in_front H.enOut (by omega) _ (fun j hj => ?_)
  rw [cells_app, List.getElem?_append_left (by rw [cL.cells_len, hl]; exact hj)]
  exact cL.get l' j (by rw [hl]; exact hj)
/-- Its store of what stands there already changes nothing. -/
theorem St.enStore {g n k i : Nat} {l' : List (CV × TS)} {v : Value} (H : St (.of W) w (enT g n l' k)) (hv : (cL.cells (l' ++ [m1, m2]))[i]? = some v) : St (.of W) (w.setCell ⟨g, i, none⟩ v) (enT g n l' k) := by
  have h1 := H.setRowCell 0 (g := g) rfl i v
  have e : (cL.cells (l' ++ [m1, m2])).set i v = cL.cells (l' ++ [m1, m2]) := by
    obtain ⟨hi, rfl⟩ := List.getElem?_eq_some_iff.1 hv
    exact List.set_getElem_self hi
  rw [e] at h1
  exact h1
end

set_option maxHeartbeats 4000000 in
set_option maxRecDepth 100000 in
theorem encodes_walk (w : World) (a : Option Addr) (n cap : Nat) (l : List (CV × TS)) (hC : ChArg w a n cap l) :
    Calls Try.prog 4 #[.slice a n cap] w fun e w' => e = .returned (.bool true) ∧ Fr [] w w' := by
  obtain ⟨i0, hi0, hz0, hz1, hz2⟩ := info_parts info_ch
  obtain ⟨i1, hi1, hy0, hy1, hy2⟩ := info_parts info_str
  have HI := hid (And.intro hi0 (And.intro hz0 (And.intro hz1 hz2)))
  have HJ := hid (And.intro hi1 (And.intro hy0 (And.intro hy1 hy2)))
  clear hi0 hz0 hz1 hz2 hi1 hy0 hy1 hy2
  have hcp := hid (st_copy (St.refl w) hC)
  have hcap := hC.cap
  have hle := hC.le
  have hn2 : (n : Int) ≤ 140737488351232 := by omega
  have HC := hid hC
  clear hC hcap hle
  go_enter Try.func4, Try.ntmps4
  go_wp2_with fail
  refine hcp.out.mono ?_
  rintro e w1 ⟨g, l', rfl, hmap, hroomy, H1⟩
  have hll : l'.length = n := by have := congrArg List.length hmap; simpa [HC.out.len] using this
  have ho1 : w1.ownsRow 0 27 10 (.slice (some ⟨g, 0, none⟩) n (n + 2)) n (cL.cells l') := H1.row 0 rfl
  have hin2 := in_new (l := [m1, m2]) (blk_alloc_at w1 (.cells (cL.cells [m1, m2]).toArray 27) w1.heap.size rfl) (by show 2 ≤ maxLen; unfold maxLen; omega)
  have hap := (H1.alloc_ (.cells (cL.cells [m1, m2]).toArray 27)).append 0 rfl
  have H1 := hid H1
  have hap := hid hap
  have hin2 := hid hin2
  have HM := hid (And.intro hmap (And.intro hroomy hll))
  clear ho1 hmap hroomy hll
  go_wp2_with (at_builtin; refine wpList_append_in rfl (.tmp 15) (.tmp 18) 28 rfl 27 i0 10 Try.underlying28 HI.out.1 HI.out.2.2.1 (by decide) g n (n + 2) (cL.cells l') rfl hap.out.1 (some ⟨w1.heap.size, 0, none⟩) 2 2 (cL.at_ [m1, m2]) rfl hin2.out (fun j _ => cL.at_one _ j) (by omega) ?_)
  intro w2 ho2 hF2
  have ho3 : w2.ownsRow 0 27 10 (.slice (some ⟨g, 0, none⟩) (n + 2) (n + 2)) (n + 2) (cL.cells (l' ++ [m1, m2])) := by rw [cells_app]; exact ho2
  have H2 := hap.out.2 _ w2 (n + 2) _ ho3 hF2 (fun z hz => .inl hz)
  have H2 : St (.of w) w2 (enT g n l' 0) := H2
  have H2 := hid H2
  clear ho2 ho3 hF2 hap hin2
  go_wp2_with fail
  go_loopw [5] (fun iv wr => ∃ k : Nat, k ≤ n ∧ iv = .int .i64 k ∧ St (.of w) wr (enT g n l' k)) (fun iv _ => n - (intOf iv).toNat)
  case atStart => exact ⟨0, Nat.zero_le _, rfl, H2.out⟩
  case round =>
    obtain ⟨k, hk, rfl, H⟩ := hrel
    by_cases hlt : k < n
    · have hkl : k < l'.length := by rw [HM.out.2.2]; exact hlt
      obtain ⟨x, hx⟩ : ∃ x, cL.nth l' k = x := ⟨_, rfl⟩
      have hget : l'[k]? = some x := by rw [← hx]; exact cL.nth_get hkl
      obtain ⟨⟨gt, hgt⟩, hxc⟩ := HM.out.2.1 x (List.mem_of_getElem? hget)
      obtain ⟨c, t⟩ := x
      obtain ⟨ta, tc⟩ := t
      simp only at hgt hxc
      subst hgt hxc
      obtain ⟨bb, ob, rfl⟩ := HC.out.row.sm (by omega)
      obtain ⟨y, hy⟩ : ∃ y, cL.nth l k = y := ⟨_, rfl⟩
      have hkl2 : k < l.length := by rw [HC.out.len]; exact hlt
      have hyc : y.1 = c := by
        have h1 : (l'.map (·.1))[k]? = some c := by rw [List.getElem?_map, hget]; rfl
        rw [HM.out.1, List.getElem?_map, show l[k]? = some y by rw [← hy]; exact cL.nth_get hkl2] at h1
        exact Option.some.inj h1
      obtain ⟨_, _, _, _, _, _, _, _, _, d9⟩ := ch_cells (HC.out.row.fr0 H.fr) k hlt y hy
      rw [hyc] at d9
      obtain ⟨_, _, _, _, _, _, _, _, _, c9⟩ := ch_cells (H.enIn HM.out.2.2) k hlt _ hx
      simp only [Nat.zero_add] at c9
      have hv9 : (cL.cells (l' ++ [m1, m2]))[k * 10 + 9]? = some (.slice (some ⟨gt, 0, none⟩) c.texts.length (c.texts.length + 2)) := by
        rw [cells_app, List.getElem?_append_left (by rw [cL.cells_len, HM.out.2.2]; show k * 10 + 9 < n * 10; omega), cL.get l' (k * 10 + 9) (by rw [HM.out.2.2]; show k * 10 + 9 < n * 10; omega)]
        rw [show cL.at_ l' (k * 10 + 9) = (cL.f (cL.nth l' k)).getD 9 undef from cL.at_add l' k 9 (by decide), hx]; rfl
      have hone := HC.out.one y (by rw [← hy]; exact cL.mem_nth hkl2)
      have htl := hone.tx.le
      have htc := hone.tx.cap
      rw [hyc] at htl
      have hap := (H.alloc_ (.cells (sL.cells [tB1, tB2]).toArray 9)).append (k + 1) (enT_get hget)
      have hin2 : In (wr.alloc (.cells (sL.cells [tB1, tB2]).toArray 9)) 1 (some ⟨wr.heap.size, 0, none⟩) 2 2 (sL.at_ [tB1, tB2]) := WRow.toIn (e := 9) (.inr ⟨wr.heap.size, _, rfl, blk_alloc_at _ _ _ rfl, Nat.le_refl _, fun j hj => by rw [List.getElem?_toArray]; exact sL.get [tB1, tB2] j hj⟩) (Nat.le_refl _) (by unfold maxLen; omega)
      have hap := hid hap
      have hin2 := hid hin2
      have hlt2 : (c.texts.length : Int) ≤ 9223372036854775805 := by omega
      have HG := hid (And.intro hget hv9)
      clear H hx hget hone hy hyc hkl hkl2 hv9 htl htc
      go_wp2_with (at_builtin; refine wpList_append_in rfl (.tmp 30) (.tmp 31) 25 rfl 9 i1 1 Try.underlying25 HJ.out.1 HJ.out.2.2.1 (by decide) gt c.texts.length (c.texts.length + 2) (sL.cells c.texts) rfl hap.out.1 (some ⟨wr.heap.size, 0, none⟩) 2 2 (sL.at_ [tB1, tB2]) rfl hin2.out (fun j _ => sL.at_one _ j) (by omega) ?_)
      intro w3 ho3 hF3
      have ho4 : w3.ownsRow 0 9 1 (.slice (some ⟨gt, 0, none⟩) (c.texts.length + 2) (c.texts.length + 2)) (c.texts.length + 2) (sL.cells (c.texts ++ [tB1, tB2])) := by rw [cells_app]; exact ho3
      have H3 := hap.out.2 _ w3 (c.texts.length + 2) _ ho4 hF3 (fun z hz => .inl hz)
      have H3 : St (.of w) w3 (enT g n l' (k + 1)) := by rw [← enT_set HG.out.1]; exact H3
      have d9 := (ch_cells (HC.out.row.fr0 H3.fr) k hlt (cL.nth l k) rfl).2.2.2.2.2.2.2.2.2
      have hlc : (cL.nth l k).1 = c := by
        have h1 : (l'.map (·.1))[k]? = some c := by rw [List.getElem?_map, HG.out.1]; rfl
        rw [HM.out.1, List.getElem?_map, cL.nth_get (show k < l.length by rw [HC.out.len]; exact hlt)] at h1
        exact Option.some.inj h1
      rw [hlc] at d9
      have e9 := (ownsRow_cell H3.enOut (k * 10 + 9) HG.out.2).1
      have f9 := (ownsRow_cell H3.enOut (k * 10 + 9) HG.out.2).2
      have H3 := hid H3
      clear ho3 ho4 hF3 hap hin2 hlc
      go_wp2_with fail
      go_roundw
      case rel => exact ⟨k + 1, by omega, by go_num, H3.out.enStore HG.out.2⟩
      case measure => simp [intOf]; omega
    · obtain rfl : k = n := by omega
      have hbits : ∀ x, x ∈ l' → 0 ≤ x.1.bits ∧ x.1.bits < 18446744073709551616 := fun x hx => ch_bits HC.out.ch x.1 (by rw [← HM.out.1]; exact List.mem_map_of_mem hx)
      have hfull : ∀ wx, St (.of w) wx (enT g k l' k) → ChIn wx (some ⟨g, 0, none⟩) k (k + 2) l' := fun wx Hx => ⟨Hx.enIn HM.out.2.2, HM.out.2.2, fun x hx => by
        refine ⟨?_, hbits x hx⟩
        obtain ⟨j, hj, rfl⟩ := List.getElem_of_mem hx
        obtain ⟨⟨gt, hgt⟩, hxc⟩ := HM.out.2.1 l'[j] hx
        have ho := Hx.row (j + 1) (by have := enT_all (g := g) (n := k) (List.getElem?_eq_getElem hj); rw [HM.out.2.2] at this; exact this)
        rw [hgt] at ho ⊢
        exact in_front ho (by omega) _ (fun i hi => by rw [cells_app, List.getElem?_append_left (by rw [sL.cells_len]; exact hi)]; exact sL.get _ i hi)⟩
      obtain ⟨A, E, hAE⟩ : ∃ A E, encode (l.map (·.1)) = (A, E) := ⟨_, _, rfl⟩
      have hEn := encode_walk wr _ _ _ l' (hfull wr H)
      rw [HM.out.1, hAE] at hEn
      have H := hid H
      have hEn := hid hEn
      have hfull := hid hfull
      have HAE := hid hAE
      clear hbits hAE
      go_wp2_with fail
      refine hEn.out.mono ?_
      rintro e w4 ⟨rfl, hF⟩
      have H4 := hid (H.out.same hF)
      clear hF
      go_wp2_with fail
      have hr := rencode_walk w4 a k cap l (HC.out.ch.fr0 H4.out.fr)
      rw [HAE.out] at hr
      refine hr.mono ?_
      rintro e w5 ⟨rfl, hF⟩
      have H5 := hid (H4.out.same hF)
      clear hF hr
      have hAA : (A.toList == A.toList) = true := by simp
      have hAN : (A.toList != A.toList) = false := by simp
      go_wp2_with fail
      refine (same_walk w5 _ _ _ _ _ _ l' l (hfull.out w5 H5.out) (HC.out.ch.fr0 H5.out.fr)).mono ?_
      rintro e w6 ⟨⟨z, rfl, hz⟩, hF⟩
      have H6 := H5.out.same hF
      obtain rfl : z = true := hz.2 HM.out.1
      have hk1 : (cL.cells (l' ++ [m1, m2]))[k * 10]? = some (.int .i64 (-1)) := by
        rw [cells_app, List.getElem?_append_right (by rw [cL.cells_len, HM.out.2.2]; exact Nat.le_refl _), cL.cells_len, HM.out.2.2, show k * 10 - k * cL.sz = 0 from Nat.sub_self _]; rfl
      have hk2 : (cL.cells (l' ++ [m1, m2]))[(k + 1) * 10]? = some (.int .i64 (-2)) := by
        rw [cells_app, List.getElem?_append_right (by rw [cL.cells_len, HM.out.2.2]; show k * 10 ≤ (k + 1) * 10; omega), cL.cells_len, HM.out.2.2, show (k + 1) * 10 - k * cL.sz = 10 by show (k + 1) * 10 - k * 10 = 10; omega]; rfl
      have g1 := (ownsRow_cell H6.enOut _ hk1).1
      have g2 := (ownsRow_cell H6.enOut _ hk2).1
      have H6 := hid H6
      clear hz hF hk1 hk2
      go_wp2_with fail
      obtain ⟨wo, rfl⟩ : ∃ wo : World, wo = wr := ⟨_, rfl⟩
      obtain ⟨n, rfl⟩ : ∃ n, n = k := ⟨_, rfl⟩
      go_loopw [11] (fun iv wr => ∃ j : Nat, j ≤ n ∧ iv = .int .i64 j ∧ St (.of w) wr (enT g n l' n)) (fun iv _ => n - (intOf iv).toNat)
      case atStart => exact ⟨0, Nat.zero_le _, rfl, H6.out⟩
      case round =>
        obtain ⟨j, hj, rfl, Hj⟩ := hrel
        clear g1 g2
        by_cases hjl : j < n
        · have hkl : j < l'.length := by rw [HM.out.2.2]; exact hjl
          obtain ⟨x, hx⟩ : ∃ x, cL.nth l' j = x := ⟨_, rfl⟩
          have hget : l'[j]? = some x := by rw [← hx]; exact cL.nth_get hkl
          obtain ⟨⟨gt, hgt⟩, hxc⟩ := HM.out.2.1 x (List.mem_of_getElem? hget)
          obtain ⟨c, t⟩ := x
          obtain ⟨ta, tc⟩ := t
          simp only at hgt hxc
          subst hgt hxc
          have c9 := (ch_cells (Hj.enIn HM.out.2.2) j hjl _ hx).2.2.2.2.2.2.2.2.2
          simp only [Nat.zero_add] at c9
          have ho := Hj.row (j + 1) (by have := enT_all (g := g) (n := n) hget; rw [HM.out.2.2] at this; exact this)
          have hlc : (cL.nth l j).1 = c := by
            have h1 : (l'.map (·.1))[j]? = some c := by rw [List.getElem?_map, hget]; rfl
            rw [HM.out.1, List.getElem?_map, cL.nth_get (show j < l.length by rw [HC.out.len]; exact hjl)] at h1
            exact Option.some.inj h1
          have hone := HC.out.one (cL.nth l j) (cL.mem_nth (by rw [HC.out.len]; exact hjl))
          have htl := hone.tx.le
          have htc := hone.tx.cap
          rw [hlc] at htl
          have hlt2 : (c.texts.length : Int) ≤ 9223372036854775805 := by omega
          have hw2 : IntKind.i64.wrap ((c.texts.length : Int) + 2) = (c.texts.length : Int) + 2 := IntWalk.i64_in _ (by omega)
          have hw1 : IntKind.i64.wrap ((c.texts.length : Int) + 1) = (c.texts.length : Int) + 1 := IntWalk.i64_in _ (by omega)
          have hq1 : (sL.cells (c.texts ++ [tB1, tB2]))[c.texts.length]? = some (.string tB1) := by
            rw [cells_app, List.getElem?_append_right (by rw [sL.cells_len]; show c.texts.length * 1 ≤ _; omega), sL.cells_len, show c.texts.length - c.texts.length * sL.sz = 0 by show _ - c.texts.length * 1 = 0; omega]; rfl
          have hq2 : (sL.cells (c.texts ++ [tB1, tB2]))[c.texts.length + 1]? = some (.string tB2) := by
            rw [cells_app, List.getElem?_append_right (by rw [sL.cells_len]; show c.texts.length * 1 ≤ _; omega), sL.cells_len, show c.texts.length + 1 - c.texts.length * sL.sz = 1 by show _ - c.texts.length * 1 = 1; omega]; rfl
          have p1 := (ownsRow_cell ho _ hq1).1
          have p2 := (ownsRow_cell ho _ hq2).1
          have Hj := hid Hj
          unfold tB1 at p1
          unfold tB2 at p2
          clear hx hget ho hlc hone htl htc hq1 hq2 hkl
          go_wp2_with fail
          go_quiet (fail)
          go_wp2_with fail
          exact ⟨⟨j + 1, by omega, by go_num, Hj.out.drewN _⟩, by simp [intOf]; omega⟩
        · have Hj := hid Hj
          go_wp2_with (go_at_call 14; refine (fixed_walk _).mono ?_; rintro e w8 ⟨rfl, hF8⟩; have hF8 := hid hF8)
          go_ret
          exact ⟨rfl, (Hj.out.fr).trans hF8.out⟩

theorem recordEncodes_walk (w : World) (a : Option Addr) (n cap : Nat) (l : List (CV × TS)) (hC : ChArg w a n cap l) :
    Calls Try.prog 4 #[.slice a n cap] w fun e w' => e = .returned (.bool true) ∧ Fr [] w w' := encodes_walk w a n cap l hC
end Go.Proofs.Ytdobbmlaokolmaa
