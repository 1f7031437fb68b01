/-
  Merged, in build order: Ts8 At0 At1 At2 At5 At3.
-/
import Derived.Test.YtkiccbjngokpjaaGreatM25
import Derived.Test.YtkiccbjngokpjaaGreatM26
import Derived.Test.YtkiccbjngokpjaaGreatM22
/-
  the streams of top: newStream (a log); flowing.
-/
namespace Go.Proofs.YtkiccbjngokpjaaGreat
open Go.RowKit
set_option linter.unusedVariables false
set_option linter.unusedSimpArgs false

section
variable {W : Base} {w : World}
set_option maxHeartbeats 3200000 in
theorem st_newStream_no (win res : Int) (hb : ¬ (1 ≤ win ∧ win ≤ 8 ∧ 1 ≤ res ∧ res ≤ 16)) (art : Bool) :
    Calls Tryz.prog 5 #[.int .i64 win, .int .i64 res, .bool art] w fun e w' => e = .returned (.tuple #[.pointer none, .bool false]) ∧ w = w' := by
  by_cases h1 : win < 1
  · clear hb
    go_enter Tryz.func5, Tryz.ntmps5
    go_wp2_with fail
    go_ret2
    exact ⟨rfl, rfl⟩
  · by_cases h2 : 8 < win
    · clear hb
      go_enter Tryz.func5, Tryz.ntmps5
      go_wp2_with fail
      go_ret2
      exact ⟨rfl, rfl⟩
    · by_cases h3 : res < 1
      · clear hb
        go_enter Tryz.func5, Tryz.ntmps5
        go_wp2_with fail
        go_ret2
        exact ⟨rfl, rfl⟩
      · have h4 : 16 < res := by omega
        clear hb
        go_enter Tryz.func5, Tryz.ntmps5
        go_wp2_with fail
        go_ret2
        exact ⟨rfl, rfl⟩

set_option maxHeartbeats 6400000 in
set_option maxRecDepth 100000 in
theorem st_newStream_log (H : St W w []) (win res : Nat) (h1 : 1 ≤ win ∧ win ≤ 8) (h2 : 1 ≤ res ∧ res ≤ 16) :
    Calls Tryz.prog 5 #[.int .i64 win, .int .i64 res, .bool false] w fun e w' => ∃ X S P K N pv sv, e = .returned (.tuple #[ptr X, .bool true]) ∧ St W w' (smL X S P K N (.new win res) pv sv) := by
  have HN := hid (st_nnew H)
  have g1 : ¬ (win : Int) < 1 := by omega
  have g2 : ¬ (8 : Int) < win := by omega
  have g3 : ¬ (res : Int) < 1 := by omega
  have g4 : ¬ (16 : Int) < res := by omega
  have h1 := hid h1
  have h2 := hid h2
  clear H
  go_enter Tryz.func5, Tryz.ntmps5
  go_wp2_with fail
  refine HN.out.mono ?_
  rintro e w1 ⟨N, rfl, H1⟩
  have H1 : St W w1 [NtT N [] 0] := H1
  have HK := hid (st_knew H1)
  clear HN H1
  go_wp2_with fail
  refine HK.out.mono ?_
  rintro e w2 ⟨K, rfl, H2⟩
  have H2 := hid (H2.alloc (stO (.pointer none) (.pointer none) (ptr K) N win res 0 (.slice none 0 0) (.slice none 0 0)))
  clear HK
  have HW := hid (st_wnew H2.out win h1.out)
  go_wp2_with fail
  refine HW.out.mono ?_
  rintro e w3 ⟨P, rfl, H3⟩
  clear HW H2
  generalize w2.heap.size = X at H3 ⊢
  have H3 : St W w3 [NtT N [] 0, KnT K ⟨none⟩ 0, BlkT X (stO (.pointer none) (.pointer none) (ptr K) N win res 0 (.slice none 0 0) (.slice none 0 0)), WnT P (.new win)] := H3
  have b3 := H3.blk 2 rfl
  have f1 := free_blk (i := 1) b3
  have x1 := cell_blk (i := 1) b3 rfl
  have H4 := H3.setBlk 2 rfl 1 (ptr P)
  have H4 : St W (w3.setCell ⟨X, 1, none⟩ (ptr P)) [NtT N [] 0, KnT K ⟨none⟩ 0, BlkT X (stO (.pointer none) (ptr P) (ptr K) N win res 0 (.slice none 0 0) (.slice none 0 0)), WnT P (.new win)] := H4
  have b4 := H4.blk 2 rfl
  have f9 := free_blk (i := 9) b4
  have x9 := cell_blk (i := 9) b4 rfl
  have H5 := H4.setBlk 2 rfl 9 (.bool false)
  have H5 : St W ((w3.setCell ⟨X, 1, none⟩ (ptr P)).setCell ⟨X, 9, none⟩ (.bool false)) [NtT N [] 0, KnT K ⟨none⟩ 0, BlkT X (stO (.pointer none) (ptr P) (ptr K) N win res (0 : Nat) (.slice none 0 0) (.slice none 0 0)), WnT P (.new win)] := H5
  have HB := hid (st_begins_log H5 2 rfl h1.out h2.out (by omega))
  clear b3 b4 H3 H4 H5
  go_wp2_with fail
  refine HB.out.mono ?_
  rintro e w4 ⟨S, rfl, H6⟩
  have H7 := hid (show St W w4 (smL X S P K N (.new win res) (.slice none 0 0) (.slice none 0 0)) from by
    have h : St W w4 ([] ++ [NtT N [] 0, KnT K ⟨none⟩ 0, BlkT X (stO (ptr S) (ptr P) (ptr K) N win res ((0 + 1 : Nat) : Int) (.slice none 0 0) (.slice none 0 0)), WnT P (.new win), SnT S (.new win res)]) := H6
    have h2 := h.pickEnd [2, 4, 3, 0] (by decide) (by intro q hq; simp at hq ⊢; omega)
    have h3 := (h2.nilRow 9 1).nilRow 9 1
    exact h3)
  clear HB x1 f1 x9 f9
  go_wp2_with fail
  go_ret2
  exact ⟨_, _, _, _, _, _, _, rfl, H7.out⟩

abbrev bA : ByteArray := ⟨#[97]⟩
theorem hello_ok : (MV.of 1).Ok := by
  have hk : (MV.of 1).kind = 1 := rfl
  refine ⟨by rw [hk]; decide, by rw [hk]; decide, rfl, fun h => absurd (hk.symm.trans h.1) (by decide), fun f hf => ?_⟩
  have hl : fdsOf (MV.of 1).kind = [] := rfl
  rw [hl] at hf
  cases hf
theorem take_a : ((Wn.new 2).take 0 bA).2 = [bA] := by rfl
theorem item_a : ((Sn.new 2 2).put bA).items.length = 1 := by rfl
set_option maxHeartbeats 6400000 in
set_option maxRecDepth 100000 in
theorem st_flowing (w : World) : Calls Tryz.prog 4 #[] w fun e w' => e = .returned (.bool true) ∧ Fr [] w w' := by
  have HS0 := hid (st_snew (St.refl w) 2 2 (by decide) (by decide))
  go_enter Tryz.func4, Tryz.ntmps4
  go_wp2_with fail
  refine HS0.out.mono ?_
  rintro e w1 ⟨S, rfl, H1⟩
  have HW0 := hid (st_wnew H1 2 (by decide))
  clear HS0 H1
  go_wp2_with fail
  refine HW0.out.mono ?_
  rintro e w2 ⟨P, rfl, H2⟩
  have HN0 := hid (st_nnew H2)
  clear HW0 H2
  go_wp2_with fail
  refine HN0.out.mono ?_
  rintro e w3 ⟨N, rfl, H3⟩
  have HK0 := hid (st_knew H3)
  clear HN0 H3
  go_wp2_with fail
  refine HK0.out.mono ?_
  rintro e w4 ⟨K, rfl, H4⟩
  have H4 : St _ w4 [SnT S (.new 2 2), WnT P (.new 2), NtT N [] 0, KnT K ⟨none⟩ 0] := H4
  have HT := hid (st_wtake H4 1 rfl 0 bA (by rfl) (by decide) (by decide))
  clear HK0 H4
  go_wp2_with fail
  refine HT.out.mono ?_
  rintro e w5 ⟨v, z, rfl, hz, H5⟩
  rw [take_a] at H5 hz
  obtain rfl : z = 0 := hz (by simp)
  obtain ⟨la, lc, rfl, _, _⟩ := row_slice (H5.row 4 rfl)
  have HP := hid (st_kput_take (H5.take 4) 3 rfl 1 0 ⟨#[]⟩ (by decide) (by decide) (by rfl) (by decide) (fun _ => rfl) (by decide) (by decide) (by decide))
  clear HT hz
  go_wp2_with fail
  refine HP.out.mono ?_
  rintro e w6 ⟨rfl, H6⟩
  have H6 : St _ w6 [SnT S (.new 2 2), WnT P ((Wn.new 2).take 0 bA).1, NtT N [] 0, KnT K ((⟨none⟩ : Kn).put 1 0 ⟨#[]⟩) 1] := H6
  have HE := hid (st_wencode H6 (MV.of 1) hello_ok)
  clear HP H5
  dsimp only [MV.of, MV.f] at HE
  go_wp2_with fail
  refine HE.out.mono ?_
  rintro e w7 ⟨rfl, H7⟩
  have HPt := hid (st_sput H7 0 rfl bA (by rfl))
  clear HE H6 H7
  generalize MV.enc _ = en
  go_wp2_with fail
  refine HPt.out.mono ?_
  rintro e w8 ⟨rfl, H8⟩
  have H8 : St _ w8 [SnT S ((Sn.new 2 2).put bA), WnT P ((Wn.new 2).take 0 bA).1, NtT N [] 0, KnT K ((⟨none⟩ : Kn).put 1 0 ⟨#[]⟩) 1] := H8
  have HD := hid (st_sdue H8 0 rfl (by decide) (by decide) (by decide))
  clear HPt H8
  go_wp2_with fail
  refine HD.out.mono ?_
  rintro e w9 ⟨v9, rfl, H9⟩
  rw [item_a] at H9
  have H9 : St _ w9 ([SnT S ((Sn.new 2 2).put bA).due, WnT P ((Wn.new 2).take 0 bA).1, NtT N [] 0, KnT K ((⟨none⟩ : Kn).put 1 0 ⟨#[]⟩) 1] ++ [RowT 111 2 v9 1 (iL.cells ((Sn.new 2 2).put bA).items)]) := H9
  obtain ⟨da, dc, rfl, _, _⟩ := row_slice (H9.row 4 rfl)
  have HSd := hid (st_nsend H9 2 rfl 0 0 0 0 en (by decide))
  clear HD H9
  go_wp2_with fail
  refine HSd.out.mono ?_
  rintro e w10 ⟨rfl, H10⟩
  have hFr := hid H10.fr
  have e1 : nextN 0 = 1 := by rfl
  rw [e1]
  clear HSd H10
  go_wp2_with fail
  go_ret
  exact ⟨rfl, hFr.out⟩
end

end Go.Proofs.YtkiccbjngokpjaaGreat

/-
  the artefacts of top: messages; what a sink has taken; Put, whole; Hear.
-/
namespace Go.Proofs.YtkiccbjngokpjaaGreat
open Go.RowKit
set_option linter.unusedVariables false
set_option linter.unusedSimpArgs false

/-! ### Messages -/
def mPut (b i : Nat) (t : ByteArray) : MV := { MV.of 6 with job := 1, bad := b, idx := i, text := t }
def mTook (b c : Nat) : MV := { MV.of 15 with job := 1, bad := b, cnt := c }
def mRef (b : Nat) : MV := { MV.of 16 with job := 1, bad := b }
theorem mPut_ok {b i : Nat} {t : ByteArray} (hb1 : 1 ≤ b) (hb2 : b ≤ 1099511627776) (hi : i ≤ 16) (ht : t.size ≤ 32) (h0 : i = 0 → t = ⟨#[]⟩) : (mPut b i t).Ok := by
  have hk : (mPut b i t).kind = 6 := rfl
  refine ⟨by rw [hk]; decide, by rw [hk]; decide, rfl, fun h => ?_, fun f hf => ?_⟩
  · have h1 : (i : Int) = 0 := h.2.1
    exact h.2.2 (h0 (by omega))
  · have hl : fdsOf (mPut b i t).kind = [fJ, fB, fI 16, fL] := rfl
    rw [hl] at hf
    simp at hf
    rcases hf with rfl | rfl | rfl | rfl
    · simp [Fd.may, MV.int, mPut, MV.of]
    · simp [Fd.may, MV.int, mPut, MV.of]; omega
    · simp [Fd.may, MV.int, mPut, MV.of]; omega
    · simp [Fd.may, MV.str, mPut, MV.of]; omega
theorem mTook_ok {b c : Nat} (hb1 : 1 ≤ b) (hb2 : b ≤ 1099511627776) (hc : c ≤ 17) : (mTook b c).Ok := by
  have hk : (mTook b c).kind = 15 := rfl
  refine ⟨by rw [hk]; decide, by rw [hk]; decide, rfl, fun h => absurd (hk.symm.trans h.1) (by decide), fun f hf => ?_⟩
  have hl : fdsOf (mTook b c).kind = [fJ, fB, fC 17] := rfl
  rw [hl] at hf
  simp at hf
  rcases hf with rfl | rfl | rfl
  · simp [Fd.may, MV.int, mTook, MV.of]
  · simp [Fd.may, MV.int, mTook, MV.of]; omega
  · simp [Fd.may, MV.int, mTook, MV.of]; omega
theorem mRef_ok {b : Nat} (hb1 : 1 ≤ b) (hb2 : b ≤ 1099511627776) : (mRef b).Ok := by
  have hk : (mRef b).kind = 16 := rfl
  refine ⟨by rw [hk]; decide, by rw [hk]; decide, rfl, fun h => absurd (hk.symm.trans h.1) (by decide), fun f hf => ?_⟩
  have hl : fdsOf (mRef b).kind = [fJ, fB] := rfl
  rw [hl] at hf
  simp at hf
  rcases hf with rfl | rfl
  · simp [Fd.may, MV.int, mRef, MV.of]
  · simp [Fd.may, MV.int, mRef, MV.of]; omega

/-- As many pieces as a sink can have taken. -/
def Kn.phi (k : Kn) : Nat := match k.held with
  | none => 0
  | some p => 18 * p.1 + p.2.length + 1
theorem Kn.phi_take {k : Kn} {b i : Nat} {t : ByteArray} (h : k.takes b i = true) (hl : k.ps.length ≤ 16) : k.phi + 1 ≤ (k.put b i t).phi := by
  have e : k.put b i t = k.add b i t := by unfold Kn.put; rw [if_pos h]
  rw [e]
  unfold Kn.takes at h
  rcases hh : k.held with _ | ⟨B, ps⟩
  · have hc : k.count b = 0 := by unfold Kn.count; rw [hh]
    rw [hc] at h
    have hi : i = 0 := by simp at h; exact h.2
    unfold Kn.add
    rw [if_pos hi]
    unfold Kn.phi
    rw [hh]
    simp
  · have hl2 : ps.length ≤ 16 := by unfold Kn.ps at hl; rw [hh] at hl; exact hl
    have hc : k.count b = if B = b then 1 + ps.length else 0 := by unfold Kn.count; rw [hh]
    have hlo : k.low b = decide (b < B) := by unfold Kn.low; rw [hh]
    rw [hc, hlo] at h
    simp at h
    obtain ⟨h1, h2⟩ := h
    by_cases hi : i = 0
    · have hne : B ≠ b := by
        intro e
        rw [if_pos e] at h2
        omega
      unfold Kn.add
      rw [if_pos hi]
      unfold Kn.phi
      rw [hh]
      simp only [List.length_nil]
      omega
    · have heq : B = b := by
        rcases Nat.decEq B b with h3 | h3
        · rw [if_neg h3] at h2; exact absurd h2 hi
        · exact h3
      unfold Kn.add
      rw [if_neg hi, hh]
      unfold Kn.phi
      rw [hh]
      simp only [List.length_append, List.length_singleton]
      omega
theorem Kn.put_not {k : Kn} {b i : Nat} {t : ByteArray} (h : k.takes b i = false) : k.put b i t = k := by unfold Kn.put; rw [if_neg (by rw [h]; simp)]
theorem Kn.low_not {k : Kn} {b i : Nat} (h : k.low b = true) : k.takes b i = false := by unfold Kn.takes; rw [h]; rfl

section
variable {W : Base} {w : World} {R : List Thing}
theorem kn_same {i K : Nat} {k : Kn} {nn : Nat} (hi : R[i]? = some (KnT K k nn)) (H : St W w R) : St W w (R.set i (KnT K k nn)) := by
  obtain ⟨h1, h2⟩ := List.getElem?_eq_some_iff.1 hi
  rw [← h2, List.set_getElem_self]
  exact H
/-- Put, whatever comes. -/
theorem st_kput (H : St W w R) (i : Nat) {K : Nat} {k : Kn} {nn : Nat} (hi : R[i]? = some (KnT K k nn)) (b ix : Nat) (t : ByteArray) (hb1 : 1 ≤ b) (hb2 : b ≤ 1099511627776) (ht : t.size ≤ 32) (h0 : ix = 0 → t = ⟨#[]⟩) (hl : k.ps.length ≤ 16) (hix : ix ≤ 16) (hnn : nn ≤ 1073741824) (hph : nn ≤ k.phi) :
    Calls Tryz.prog 17 #[ptr K, .int .i64 1, .int .i64 b, .int .i64 ix, .string t] w fun e w' => ∃ (z1 z3 : Int) (z2 : Bool) (nn' : Nat), e = .returned (.tuple #[.int .i64 z1, .bool z2, .int .i64 z3]) ∧ Hid ((z3 == 161) = k.low b ∧ nn' ≤ (k.put b ix t).phi) ∧ St W w' (R.set i (KnT K (k.put b ix t) nn')) := by
  rcases hlow : k.low b with _ | _
  · rcases htk : k.takes b ix with _ | _
    · refine (st_kput_not H i hi b ix t hb1 hb2 hlow htk ht h0 hl hix).mono ?_
      rintro e w' ⟨z1, z3, rfl, hz, h⟩
      rw [Kn.put_not htk]
      exact ⟨z1, z3, false, nn, rfl, hid ⟨beq_eq_false_iff_ne.2 hz.out, hph⟩, kn_same hi h⟩
    · refine (st_kput_take H i hi b ix t hb1 hb2 htk ht h0 hl hix hnn).mono ?_
      rintro e w' ⟨rfl, h⟩
      exact ⟨_, 0, true, nn + 1, rfl, hid ⟨rfl, by have := Kn.phi_take (t := t) htk hl; omega⟩, h⟩
  · refine (st_kput_low H i hi b ix t hb1 hb2 hlow ht h0 hl).mono ?_
    rintro e w' ⟨rfl, h⟩
    rw [Kn.put_not (Kn.low_not hlow)]
    exact ⟨0, 161, false, nn, rfl, hid ⟨rfl, hph⟩, kn_same hi h⟩
def Kn.says (k : Kn) (b ix : Nat) (t : ByteArray) : MV := if k.low b then mRef b else mTook b ((k.put b ix t).count b)
set_option maxHeartbeats 3200000 in
set_option maxRecDepth 100000 in
theorem st_khear (H : St W w R) (i : Nat) {K : Nat} {k : Kn} {nn : Nat} (hi : R[i]? = some (KnT K k nn)) (fn fl : Int) (b ix : Nat) (t : ByteArray) (hb1 : 1 ≤ b) (hb2 : b ≤ 1099511627776) (ht : t.size ≤ 32) (h0 : ix = 0 → t = ⟨#[]⟩) (hl : k.ps.length ≤ 16) (hl2 : (k.put b ix t).ps.length ≤ 16) (hix : ix ≤ 16) (hnn : nn ≤ 1073741824) (hph : nn ≤ k.phi) :
    Calls Tryz.prog 47 #[ptr K, adV fn fl, .string (mPut b ix t).enc] w fun e w' => ∃ (g nn' : Nat), e = .returned (.slice (some ⟨g, 0, none⟩) 1 1) ∧ Hid (nn' ≤ (k.put b ix t).phi) ∧ St W w' (R.set i (KnT K (k.put b ix t) nn') ++ [BlkT g (dgO ⟨0, 1, 0, fn, fl, (k.says b ix t).enc⟩)]) := by
  have hil := lt_of_get hi
  have HIL0 := hid hil
  have HP := hid (fun (wx : World) (T : List Thing) (h : St W wx (R ++ T)) => st_kput h i (by rw [List.getElem?_append_left hil]; exact hi) b ix t hb1 hb2 ht h0 hl hix hnn hph)
  have HC := hid (fun (wx : World) (nn' : Nat) (T : List Thing) (h : St W wx ((R ++ T).set i (KnT K (k.put b ix t) nn'))) => st_kcount h i (List.getElem?_set_self (by rw [List.length_append]; exact Nat.lt_add_right _ HIL0.out)) b hl2)
  have H1 := H.alloc (ads fn fl)
  have HD := hid (st_wdecode H1 (mPut b ix t) (mPut_ok hb1 hb2 hix ht h0))
  have HB := hid (And.intro hb1 hb2)
  have hcn : (k.put b ix t).count b ≤ 17 := by
    unfold Kn.count
    unfold Kn.ps at hl2
    rcases hh : (k.put b ix t).held with _ | p
    · simp
    · rw [hh] at hl2
      have hl2 : p.2.length ≤ 16 := hl2
      simp only
      split <;> omega
  have HCn := hid hcn
  have HIL := hid hil
  generalize (mPut b ix t).enc = en at HD ⊢
  have H1 := hid H1
  clear H hi hb1 hb2 ht h0 hl hl2 hix hnn hph hcn hil
  dsimp only [mPut, MV.of, MV.f] at HD ⊢
  go_enter Tryz.func47, Tryz.ntmps47
  go_wp2_with fail
  refine HD.out.mono ?_
  rintro e w1 ⟨rfl, H2⟩
  have H4 := hid ((H2.alloc (mO (mPut b ix t))).allocAt (mO (mTook b 0)) (w1.heap.size + 1) (by simp))
  clear HD H1 H2
  dsimp only [mPut, mTook, MV.of, MV.f, mO] at H4
  go_wp2_with fail
  simp only [List.append_assoc, List.cons_append, List.nil_append] at H4
  generalize (w1.alloc _).alloc _ = w2 at H4 ⊢
  generalize w1.heap.size = pm at H4 ⊢
  refine (HP.out _ _ H4.out).mono ?_
  rintro e w3 ⟨z1, z3, z2, nn', rfl, hz, H5⟩
  have HC5 := hid (HC.out _ _ _ H5)
  rw [List.set_append_left _ _ HIL.out] at H5
  have b5 : w3.heap[pm]? = some (mO (mPut b ix t)) := H5.blk _ (get_behind _ _ 1)
  obtain ⟨m0, m1, m2, m3, m4, m5, m6, m7, m8, m9, m10⟩ := msg_cells b5
  have c5 : w3.heap[pm + 1]? = some (mO (mTook b 0)) := H5.blk _ (get_behind _ _ 2)
  obtain ⟨r0, r1, r2, r3, r4, r5, r6, r7, r8, r9, r10⟩ := msg_cells c5
  have hgr := lt_of_block c5
  have f0 := free_blk (i := 0) c5
  have f6 := free_blk (i := 6) c5
  have a5 := H5.blk _ (get_behind _ _ 0)
  have s0 := cell_blk (i := 0) a5 rfl
  have s1 := cell_blk (i := 1) a5 rfl
  have HIL2 := hid (show i < (R.set i (KnT K (k.put b ix t) nn')).length from by rw [List.length_set]; exact HIL.out)
  have hgp := lt_of_block b5
  have hga := lt_of_block a5
  clear H4 HP b5 c5 a5 hgp hga
  rcases hlow : k.low b with _ | _
  · have hz1 : (z3 == 161) = false := by rw [hz.out.1, hlow]
    have HSy := hid (show k.says b ix t = mTook b ((k.put b ix t).count b) from by unfold Kn.says; rw [if_neg (by rw [hlow]; decide)])
    have HPh := hid hz.out.2
    have H5 := hid H5
    clear hz hlow m0 m1 m2 m5 m6 m7 m8 m9 m10
    go_wp2_with fail
    refine HC5.out.mono ?_
    rintro e w4 ⟨rfl, hF⟩
    have H6 := H5.out.same hF
    have c6 : w4.heap[pm + 1]? = some (mO (mTook b 0)) := H6.blk _ (get_behind _ _ 2)
    obtain ⟨r0, r1, r2, r3, r4, r5, r6, r7, r8, r9, r10⟩ := msg_cells c6
    have f6 := free_blk (i := 6) c6
    have H7 := H6.setBlk _ (get_behind _ _ 2) 6 (.int .i64 ((k.put b ix t).count b))
    rw [set_bh] at H7
    have H7 : St W (w4.setCell ⟨pm + 1, 6, none⟩ (.int .i64 ((k.put b ix t).count b))) (R.set i (KnT K (k.put b ix t) nn') ++ [BlkT w.heap.size (ads fn fl), BlkT pm (mO (mPut b ix t)), BlkT (pm + 1) (mO (mTook b ((k.put b ix t).count b)))]) := H7
    have HE := hid (st_wencode H7 (mTook b ((k.put b ix t).count b)) (mTook_ok HB.out.1 HB.out.2 HCn.out))
    obtain ⟨cn, hcn⟩ : ∃ cn, (k.put b ix t).count b = cn := ⟨_, rfl⟩
    rw [hcn] at HE H7 HSy ⊢
    have H7 := hid H7
    dsimp only [mTook, MV.of, MV.f] at HE
    clear hcn c6 H6 H5 HC5 s0 s1 hF
    go_wp2_with fail
    refine HE.out.mono ?_
    rintro e w5 ⟨rfl, H8⟩
    have a8 := H8.blk _ (get_behind _ _ 0)
    have s0 := cell_blk (i := 0) a8 rfl
    have s1 := cell_blk (i := 1) a8 rfl
    have e9 : MV.enc ⟨15, 0, 0, 1, b, 0, cn, 0, 0, ⟨#[]⟩, ⟨#[]⟩⟩ = (k.says b ix t).enc := by rw [HSy.out]; rfl
    obtain ⟨en2, hen2⟩ : ∃ en2, (k.says b ix t).enc = en2 := ⟨_, rfl⟩
    rw [e9, hen2]
    have HE2 := hid hen2
    have H9 := hid (H8.alloc (dgO ⟨0, 1, 0, fn, fl, en2⟩))
    clear a8 HE H7 r0 r1 r2 r3 r4 r5 r6 r7 r8 r9 r10 f6 f0 m3 m4 e9 hen2
    go_wp2_with fail
    go_ret
    refine ⟨_, _, rfl, HPh, ?_⟩
    rw [HE2.out]
    have h9 := H9.out
    rw [List.append_assoc] at h9
    exact h9.pickEnd [3] (by decide) (by intro q hq; simp at hq ⊢; omega)
  · have hz1 : (z3 == 161) = true := by rw [hz.out.1, hlow]
    have HSy := hid (show k.says b ix t = mRef b from by unfold Kn.says; rw [if_pos hlow])
    have HPh := hid hz.out.2
    have H6 := H5
    have H7 := H6.setBlk _ (get_behind _ _ 2) 0 (.int .i64 16)
    rw [set_bh] at H7
    have H7 : St W (w3.setCell ⟨pm + 1, 0, none⟩ (.int .i64 16)) (R.set i (KnT K (k.put b ix t) nn') ++ [BlkT w.heap.size (ads fn fl), BlkT pm (mO (mPut b ix t)), BlkT (pm + 1) (mO (mRef b))]) := H7
    have HE := hid (st_wencode H7 (mRef b) (mRef_ok HB.out.1 HB.out.2))
    have H7 := hid H7
    dsimp only [mRef, MV.of, MV.f] at HE
    clear hz hlow m0 m1 m2 m5 m6 m7 m8 m9 m10 H5 H6 HC5 s0 s1
    go_wp2_with fail
    refine HE.out.mono ?_
    rintro e w5 ⟨rfl, H8⟩
    have a8 := H8.blk _ (get_behind _ _ 0)
    have s0 := cell_blk (i := 0) a8 rfl
    have s1 := cell_blk (i := 1) a8 rfl
    have e9 : MV.enc ⟨16, 0, 0, 1, b, 0, 0, 0, 0, ⟨#[]⟩, ⟨#[]⟩⟩ = (k.says b ix t).enc := by rw [HSy.out]; rfl
    obtain ⟨en2, hen2⟩ : ∃ en2, (k.says b ix t).enc = en2 := ⟨_, rfl⟩
    rw [e9, hen2]
    have HE2 := hid hen2
    have H9 := hid (H8.alloc (dgO ⟨0, 1, 0, fn, fl, en2⟩))
    clear a8 HE H7 r0 r1 r2 r3 r4 r5 r6 r7 r8 r9 r10 f6 f0 m3 m4 e9 hen2
    go_wp2_with fail
    go_ret
    refine ⟨_, _, rfl, HPh, ?_⟩
    rw [HE2.out]
    have h9 := H9.out
    rw [List.append_assoc] at h9
    exact h9.pickEnd [3] (by decide) (by intro q hq; simp at hq ⊢; omega)
end

end Go.Proofs.YtkiccbjngokpjaaGreat

/-
  the artefacts of top: the stream as things; says, puts.
-/
namespace Go.Proofs.YtkiccbjngokpjaaGreat
open Go.RowKit
set_option linter.unusedVariables false
set_option linter.unusedSimpArgs false

def pkA (p : Int × Pz) : Dg := match p.2 with
  | .put b i t => ⟨p.1, 2, b, 1, 0, (mPut b i t).enc⟩
  | .took b c => ⟨p.1, 1, 0, 2, b, (mTook b c).enc⟩
  | .refused b => ⟨p.1, 1, 0, 2, b, (mRef b).enc⟩
abbrev amO (S K N : Nat) (x : Am) (pv : Value) : Obj := stO (ptr S) (.pointer none) (ptr K) N x.s.win x.s.res x.badge pv (.slice none 0 0)
abbrev amL (X S K N : Nat) (x : Am) (pv : Value) (nn : Nat) : List Thing :=
  [BlkT X (amO S K N x pv), SnT S x.s, KnT K x.k nn, NtT N (x.bag.map pkA) x.sent, RowT 9 1 pv x.s.texts.length (txC x.s.texts)]

theorem get_end5 (a b c d e : Thing) (T : List Thing) (A : Thing) : ([a, b, c, d, e] ++ T ++ [A])[5 + T.length]? = some A := by
  have h : 5 + T.length = ([a, b, c, d, e] ++ T).length := by simp; omega
  rw [h, List.getElem?_concat_length]
theorem Am.sendAll_snoc (x : Am) (l : List (Nat × ByteArray)) (q : Nat × ByteArray) : x.sendAll (l ++ [q]) = (x.sendAll l).send (.put x.badge q.1 q.2) := by
  induction l generalizing x with
  | nil => rfl
  | cons p l ih => exact ih _
theorem amap_send (x : Am) (p : Pz) : (x.send p).bag.map pkA = x.bag.map pkA ++ [pkA (nextN x.sent, p)] := by simp [Am.send]

section
variable {W : Base} {w : World} {T : List Thing}
/-- A datagram more: the things stand so. -/
theorem am_send {X S K N nn : Nat} {x : Am} {pv : Value} {d : Dg} {p : Pz} (hd : d = pkA (nextN x.sent, p)) (H : St W w ((amL X S K N x pv nn ++ T).set 3 (NtT N (x.bag.map pkA ++ [d]) (nextN x.sent)))) : St W w (amL X S K N (x.send p) pv nn ++ T) := by
  subst hd
  have h := amap_send x p
  have h2 : St W w ([BlkT X (amO S K N x pv), SnT S x.s, KnT K x.k nn, NtT N (x.bag.map pkA ++ [pkA (nextN x.sent, p)]) (nextN x.sent), RowT 9 1 pv x.s.texts.length (txC x.s.texts)] ++ T) := H
  rw [← h] at h2
  exact h2

set_option maxHeartbeats 6400000 in
set_option maxRecDepth 100000 in
theorem st_asays {X S K N nn : Nat} {x : Am} {pv : Value} (H : St W w (amL X S K N x pv nn ++ T)) (hx : x.ok) (hbd : x.badge ≤ 1099511627776) (hbl : x.bag.length ≤ 536870912) :
    Calls Tryz.prog 26 #[ptr X] w fun e w' => e = .returned (.tuple #[]) ∧ St W w' (amL X S K N x.says pv nn ++ T) := by
  have HD := hid (st_sdue H 1 rfl (Nat.le_trans hx.d1 (Nat.le_trans hx.d2 hx.d3)) (Nat.le_trans hx.d4 (by decide)) hx.w8)
  have x0 := cell_blk (i := 0) (H.blk 0 rfl) rfl
  have HI := hid (show ∀ p ∈ x.s.items, p.1 ≤ 16 ∧ p.2.size ≤ 32 ∧ (p.1 = 0 → p.2 = ⟨#[]⟩) from fun p hp => by
    obtain ⟨h1, h2, h3⟩ := Sn.due_said hx.d3
    obtain ⟨h4, h5⟩ := h3 p hp
    have := hx.d4
    exact ⟨by omega, hx.cur.2.1 _ (List.mem_of_getElem? h5), fun h0 => hx.cur.2.2 _ (by rw [h0] at h5; exact h5)⟩)
  have HB := hid (And.intro hbl (Nat.le_trans x.s.items_len hx.w8))
  have HBD := hid (And.intro (show 1 ≤ x.badge from by unfold Am.badge; omega) hbd)
  obtain ⟨bd, hbd2⟩ : ∃ bd, x.badge = bd := ⟨_, rfl⟩
  have HBe := hid hbd2
  rw [hbd2] at HBD
  clear hx hbl hbd hbd2
  have H := hid H
  go_enter Tryz.func26, Tryz.ntmps26
  go_wp2_with fail
  refine HD.out.mono ?_
  rintro e w1 ⟨v, rfl, H1⟩
  clear HD x0 H
  obtain ⟨a, c, rfl, _, _⟩ := row_slice (H1.row _ (get_behind _ _ 0))
  obtain ⟨x1, hx1⟩ : ∃ x1 : Am, x1 = { x with s := x.s.due } := ⟨_, rfl⟩
  obtain ⟨n, hn⟩ : ∃ n, x.s.items.length = n := ⟨_, rfl⟩
  have hwr : x.s.due.texts = x.s.texts ∧ x.s.due.win = x.s.win ∧ x.s.due.res = x.s.res := ⟨(Sn.due_texts x.s).1, (Sn.due_texts x.s).2.2⟩
  have H2 : St W w1 (amL X S K N (x1.sendAll (x.s.items.take 0)) pv nn ++ (T ++ [RowT 111 2 (.slice a n c) x.s.items.length (iL.cells x.s.items)])) := by
    have h : St W w1 ([BlkT X (amO S K N x pv), SnT S x.s.due, KnT K x.k nn, NtT N (x.bag.map pkA) x.sent, RowT 9 1 pv x.s.texts.length (txC x.s.texts)] ++ T ++ [RowT 111 2 (.slice a x.s.items.length c) x.s.items.length (iL.cells x.s.items)]) := H1
    rw [hn] at h ⊢
    subst hx1
    show St W w1 ([BlkT X (stO (ptr S) (.pointer none) (ptr K) N x.s.due.win x.s.due.res x.badge pv (.slice none 0 0)), SnT S x.s.due, KnT K x.k nn, NtT N (x.bag.map pkA) x.sent, RowT 9 1 pv x.s.due.texts.length (txC x.s.due.texts)] ++ (T ++ [_]))
    rw [hwr.1, hwr.2.1, hwr.2.2, ← List.append_assoc]
    exact h
  have H2 := hid H2
  have HX1 := hid hx1
  have HN := hid hn
  have HS1 := hid (show ∀ l, (x1.sendAll l).badge = bd from fun l => by
    have h := (Am.sendAll_is x1 l).2.2.1
    rw [← HBe.out]
    unfold Am.badge
    rw [h, hx1])
  rw [hn]
  clear H1 hx1 hwr hn
  go_wp2_with fail
  go_loopw [3] (fun iv wr => ∃ q : Nat, q ≤ n ∧ iv = .int .i64 q ∧ Hid (St W wr (amL X S K N (x1.sendAll (x.s.items.take q)) pv nn ++ (T ++ [RowT 111 2 (.slice a n c) x.s.items.length (iL.cells x.s.items)])))) (fun iv _ => n - (intOf iv).toNat)
  case atStart => exact ⟨0, Nat.zero_le _, rfl, H2⟩
  case round =>
    obtain ⟨q, hq, rfl, HQ⟩ := hrel
    by_cases hlt : q < n
    · obtain ⟨⟨ix, t⟩, hit⟩ : ∃ it, x.s.items[q]? = some it := ⟨_, List.getElem?_eq_getElem (by rw [HN.out]; exact hlt)⟩
      have hmem := HI.out _ (List.mem_of_getElem? hit)
      have hgb : (amL X S K N (x1.sendAll (x.s.items.take q)) pv nn ++ (T ++ [RowT 111 2 (.slice a n c) x.s.items.length (iL.cells x.s.items)]))[5 + T.length]? = some (RowT 111 2 (.slice a n c) x.s.items.length (iL.cells x.s.items)) := by
        rw [List.getElem?_append_right (by simp), List.getElem?_append_right (by simp)]
        simp
      have hr := HQ.out.row _ hgb
      rw [HN.out] at hr
      obtain ⟨g, cap, hsl, _, _⟩ := ownsRow_shape hr (by omega)
      simp only [Value.slice.injEq, true_and] at hsl
      obtain ⟨rfl, rfl⟩ := hsl
      have hnth : iL.nth x.s.items q = (ix, t) := by unfold Lay.nth; rw [List.getD_eq_getElem?_getD, hit]; rfl
      have hcell : ∀ r u, r < 2 → (iL.f (ix, t))[r]? = some u → (iL.cells x.s.items)[q * 2 + r]? = some u := fun r u hr2 hu => by
        have h1 := iL.get x.s.items (q * 2 + r) (by have := HN.out; show q * 2 + r < x.s.items.length * 2; omega)
        rw [h1]
        have h2 := iL.at_add x.s.items q r hr2
        rw [hnth] at h2
        rw [show iL.sz = 2 from rfl] at h2
        rw [h2, List.getD_eq_getElem?_getD, hu]
        rfl
      have y0 : wr.cell? ⟨g, q * 2, none⟩ = some (.int .i64 ix) := (ownsRow_cell hr _ (hcell 0 _ (by decide) rfl)).1
      have y1 : wr.cell? ⟨g, q * 2 + 1, none⟩ = some (.string t) := (ownsRow_cell hr _ (hcell 1 _ (by decide) rfl)).1
      have hbX := HQ.out.blk 0 rfl
      dsimp only [amO] at hbX
      rw [HS1.out] at hbX
      have HF := hid (show ∀ wx, Fr [] wr wx → wx.cell? ⟨X, 6, none⟩ = some (.int .i64 bd) ∧ wx.cell? ⟨g, q * 2, none⟩ = some (.int .i64 ix) ∧ wx.cell? ⟨g, q * 2 + 1, none⟩ = some (.string t) from fun wx hF => ⟨cell_blk (i := 6) (hF.keep hbX (by simp)) rfl, hF.cell0 y0, hF.cell0 y1⟩)
      have HWr := hid (show ∀ wx, Fr [] wr wx → Calls Tryz.prog 42 #[ptr X] wx fun e w' => e = .returned (adV 2 bd) ∧ Fr [] wx w' from fun wx hF => writer_blk (hF.keep hbX (by simp)))
      have HSy := hid (show ∀ wx, Fr [] wr wx → Calls Tryz.prog 41 #[ptr X, adV 2 bd, adV 1 0, .agg (mPut bd ix t).f.toArray] wx fun e w' => e = .returned (.tuple #[]) ∧ St W w' (amL X S K N (x1.sendAll (x.s.items.take (q + 1))) pv nn ++ (T ++ [RowT 111 2 (.slice (some ⟨g, 0, none⟩) n c) x.s.items.length (iL.cells x.s.items)])) from fun wx hF => by
        have hl : (x1.sendAll (x.s.items.take q)).bag.length ≤ 536870920 := by
          rw [(Am.sendAll_is x1 _).2.2.2.2.2.2.2, HX1.out]
          have h1 := HB.out.1
          have h2 := HB.out.2
          rw [List.length_take]
          show x.bag.length + min q x.s.items.length ≤ 536870920
          omega
        refine (st_say (HQ.out.same hF) 0 3 (s := ptr S) (p := .pointer none) (k := ptr K) rfl (bag := (x1.sendAll (x.s.items.take q)).bag.map pkA) rfl (by rw [List.length_map]; omega) 2 bd 1 0 (mPut bd ix t) (mPut_ok HBD.out.1 HBD.out.2 hmem.1 hmem.2.1 hmem.2.2)).mono ?_
        rintro e w' ⟨rfl, h⟩
        refine ⟨rfl, ?_⟩
        have ht : x.s.items.take (q + 1) = x.s.items.take q ++ [(ix, t)] := by rw [List.take_add_one, hit]; rfl
        have hxb : x1.badge = bd := HS1.out []
        rw [ht, Am.sendAll_snoc, hxb]
        exact am_send rfl h)
      have HL := hid (And.intro hlt hq)
      have hlt2 : (q : Int) < n := by omega
      have hcp : (n : Int) ≤ 8 := by have := HB.out.2; have := HN.out; omega
      have x1c := cell_blk (i := 1) hbX rfl
      clear hit hmem hr hnth hcell hbX hlt hq y0 y1 HQ hgb
      go_wp2_with fail
      refine wp_region_U (S := fun wx : World => wx.cell? ⟨X, 6, none⟩ = some (.int .i64 bd) ∧ wx.cell? ⟨g, q * 2, none⟩ = some (.int .i64 ix) ∧ wx.cell? ⟨g, q * 2 + 1, none⟩ = some (.string t)) 19 (by kernel_rfl) (HF.out _ ((Fr.refl _ _).drew)) (fun hHeld => ?_)
      refine takeU (i := 0) (d := 20) (v := ?_) rfl rfl (by kernel_rfl) (by kernel_rfl) (by kernel_rfl) (by kernel_rfl) (by kernel_rfl) (fun _ _ _ h => h) (Or.inl ⟨by rfl, ?_⟩) hHeld ?_
      rotate_left
      · intro wq hSw; (try dsimp only at hSw); go_simp; all_goals (with_reducible rfl)
      simp only [Act.put, List.setIfInBounds_toArray, List.set_cons_zero, List.set_cons_succ]
      refine takeU (i := 1) (d := 21) (v := ?_) rfl rfl (by kernel_rfl) (by kernel_rfl) (by kernel_rfl) (by kernel_rfl) (by kernel_rfl) (fun _ _ _ h => h) (Or.inl ⟨by rfl, ?_⟩) hHeld ?_
      rotate_left
      · intro wq hSw; (try dsimp only at hSw); go_simp; all_goals (with_reducible rfl)
      simp only [Act.put, List.setIfInBounds_toArray, List.set_cons_zero, List.set_cons_succ]
      refine takeU (i := 3) (d := 23) (v := ?_) rfl rfl (by kernel_rfl) (by kernel_rfl) (by kernel_rfl) (by kernel_rfl) (by kernel_rfl) (fun _ _ _ h => h) (Or.inl ⟨by rfl, ?_⟩) hHeld ?_
      rotate_left
      · intro wq hSw; (try dsimp only at hSw); go_simp; all_goals (with_reducible rfl)
      simp only [Act.put, List.setIfInBounds_toArray, List.set_cons_zero, List.set_cons_succ]
      refine takeU (i := 4) (d := 24) (v := ?_) rfl rfl (by kernel_rfl) (by kernel_rfl) (by kernel_rfl) (by kernel_rfl) (by kernel_rfl) (fun _ _ _ h => h) (Or.inl ⟨by rfl, ?_⟩) hHeld ?_
      rotate_left
      · intro wq hSw; (try dsimp only at hSw); go_simp; all_goals (with_reducible rfl)
      simp only [Act.put, List.setIfInBounds_toArray, List.set_cons_zero, List.set_cons_succ]
      refine takeU (i := 5) (d := 25) (v := ?_) rfl rfl (by kernel_rfl) (by kernel_rfl) (by kernel_rfl) (by kernel_rfl) (by kernel_rfl) (fun _ _ _ h => h) (Or.inl ⟨by rfl, ?_⟩) hHeld ?_
      rotate_left
      · intro wq hSw; (try dsimp only at hSw); go_simp; all_goals (with_reducible rfl)
      simp only [Act.put, List.setIfInBounds_toArray, List.set_cons_zero, List.set_cons_succ]
      refine takeU (i := 6) (d := 26) (v := ?_) rfl rfl (by kernel_rfl) (by kernel_rfl) (by kernel_rfl) (by kernel_rfl) (by kernel_rfl) (fun _ _ _ h => h) (Or.inl ⟨by rfl, ?_⟩) hHeld ?_
      rotate_left
      · intro wq hSw; (try dsimp only at hSw); go_simp; all_goals (with_reducible rfl)
      simp only [Act.put, List.setIfInBounds_toArray, List.set_cons_zero, List.set_cons_succ]
      refine takeU (i := 7) (d := 27) (v := ?_) rfl rfl (by kernel_rfl) (by kernel_rfl) (by kernel_rfl) (by kernel_rfl) (by kernel_rfl) (fun _ _ _ h => h) (Or.inl ⟨by rfl, ?_⟩) hHeld ?_
      rotate_left
      · intro wq hSw; (try dsimp only at hSw); go_simp; all_goals (with_reducible rfl)
      simp only [Act.put, List.setIfInBounds_toArray, List.set_cons_zero, List.set_cons_succ]
      refine takeU (i := 8) (d := 28) (v := ?_) rfl rfl (by kernel_rfl) (by kernel_rfl) (by kernel_rfl) (by kernel_rfl) (by kernel_rfl) (fun _ _ _ h => h) (Or.inl ⟨by rfl, ?_⟩) hHeld ?_
      rotate_left
      · intro wq hSw; (try dsimp only at hSw); go_simp; all_goals (with_reducible rfl)
      simp only [Act.put, List.setIfInBounds_toArray, List.set_cons_zero, List.set_cons_succ]
      refine takeU (i := 9) (d := 29) (v := ?_) rfl rfl (by kernel_rfl) (by kernel_rfl) (by kernel_rfl) (by kernel_rfl) (by kernel_rfl) (fun _ _ _ h => h) (Or.inl ⟨by rfl, ?_⟩) hHeld ?_
      rotate_left
      · intro wq hSw; (try dsimp only at hSw); go_simp; all_goals (with_reducible rfl)
      simp only [Act.put, List.setIfInBounds_toArray, List.set_cons_zero, List.set_cons_succ]
      refine takeU (i := 10) (d := 30) (v := ?_) rfl rfl (by kernel_rfl) (by kernel_rfl) (by kernel_rfl) (by kernel_rfl) (by kernel_rfl) (fun _ _ _ h => h) (Or.inl ⟨by rfl, ?_⟩) hHeld ?_
      rotate_left
      · intro wq hSw; (try dsimp only at hSw); go_simp; all_goals (with_reducible rfl)
      simp only [Act.put, List.setIfInBounds_toArray, List.set_cons_zero, List.set_cons_succ]
      refine takeU (i := 11) (d := 31) (v := ?_) rfl rfl (by kernel_rfl) (by kernel_rfl) (by kernel_rfl) (by kernel_rfl) (by kernel_rfl) (fun _ _ _ h => h) (Or.inl ⟨by rfl, ?_⟩) hHeld ?_
      rotate_left
      · intro wq hSw; (try dsimp only at hSw); go_simp; all_goals (with_reducible rfl)
      simp only [Act.put, List.setIfInBounds_toArray, List.set_cons_zero, List.set_cons_succ]
      refine takeU (i := 12) (d := 32) (v := ?_) rfl rfl (by kernel_rfl) (by kernel_rfl) (by kernel_rfl) (by kernel_rfl) (by kernel_rfl) (fun _ _ _ h => h) (Or.inl ⟨by rfl, ?_⟩) hHeld ?_
      rotate_left
      · intro wq hSw; (try dsimp only at hSw); go_simp; all_goals (with_reducible rfl)
      simp only [Act.put, List.setIfInBounds_toArray, List.set_cons_zero, List.set_cons_succ]
      refine takeU (i := 13) (d := 33) (v := ?_) rfl rfl (by kernel_rfl) (by kernel_rfl) (by kernel_rfl) (by kernel_rfl) (by kernel_rfl) (fun _ _ _ h => h) (Or.inl ⟨by rfl, ?_⟩) hHeld ?_
      rotate_left
      · intro wq hSw; (try dsimp only at hSw); go_simp; all_goals (with_reducible rfl)
      simp only [Act.put, List.setIfInBounds_toArray, List.set_cons_zero, List.set_cons_succ]
      refine takeU (i := 14) (d := 34) (v := ?_) rfl rfl (by kernel_rfl) (by kernel_rfl) (by kernel_rfl) (by kernel_rfl) (by kernel_rfl) (fun _ _ _ h => h) (Or.inl ⟨by rfl, ?_⟩) hHeld ?_
      rotate_left
      · intro wq hSw; (try dsimp only at hSw); go_simp; all_goals (with_reducible rfl)
      simp only [Act.put, List.setIfInBounds_toArray, List.set_cons_zero, List.set_cons_succ]
      refine takeU (i := 15) (d := 35) (v := ?_) rfl rfl (by kernel_rfl) (by kernel_rfl) (by kernel_rfl) (by kernel_rfl) (by kernel_rfl) (fun _ _ _ h => h) (Or.inl ⟨by rfl, ?_⟩) hHeld ?_
      rotate_left
      · intro wq hSw; (try dsimp only at hSw); go_simp; all_goals (with_reducible rfl)
      simp only [Act.put, List.setIfInBounds_toArray, List.set_cons_zero, List.set_cons_succ]
      refine takeU (i := 16) (d := 36) (v := ?_) rfl rfl (by kernel_rfl) (by kernel_rfl) (by kernel_rfl) (by kernel_rfl) (by kernel_rfl) (fun _ _ _ h => h) (Or.inl ⟨by rfl, ?_⟩) hHeld ?_
      rotate_left
      · intro wq hSw; (try dsimp only at hSw); go_simp; all_goals (with_reducible rfl)
      simp only [Act.put, List.setIfInBounds_toArray, List.set_cons_zero, List.set_cons_succ]
      refine takeU (i := 17) (d := 37) (v := ?_) rfl rfl (by kernel_rfl) (by kernel_rfl) (by kernel_rfl) (by kernel_rfl) (by kernel_rfl) (fun _ _ _ h => h) (Or.inl ⟨by rfl, ?_⟩) hHeld ?_
      rotate_left
      · intro wq hSw; (try dsimp only at hSw); go_simp; all_goals (with_reducible rfl)
      simp only [Act.put, List.setIfInBounds_toArray, List.set_cons_zero, List.set_cons_succ]
      refine takeU (i := 18) (d := 38) (v := ?_) rfl rfl (by kernel_rfl) (by kernel_rfl) (by kernel_rfl) (by kernel_rfl) (by kernel_rfl) (fun _ _ _ h => h) (Or.inl ⟨by rfl, ?_⟩) hHeld ?_
      rotate_left
      · intro wq hSw; (try dsimp only at hSw); go_simp; all_goals (with_reducible rfl)
      simp only [Act.put, List.setIfInBounds_toArray, List.set_cons_zero, List.set_cons_succ]
      refine wpAnyU_ready (rs := [2]) (by kernel_rfl) (by simp) ?_
      refine AllReadyU.cons rfl (fun K1 hK => ?_) AllReadyU.nil
      go_simp
      go_at_call 42
      refine (HWr.out _ ((Fr.refl _ _).drew)).mono ?_
      rintro e w5 ⟨rfl, hF5⟩
      have hF6 := hid (((Fr.refl [] wr).drew).trans hF5)
      go_simp
      refine hK.out _ _ (fun _ => HF.out _ hF6.out) (fun hHeld => ?_)
      clear hK K1
      refine wpAnyU_ready (rs := [19]) (by kernel_rfl) (by simp) ?_
      refine AllReadyU.cons rfl (fun K1 hK => ?_) AllReadyU.nil
      go_simp
      go_at_call 41
      refine (HSy.out _ hF6.out).mono ?_
      rintro e w6 ⟨rfl, H7⟩
      have H7 := hid H7
      go_simp
      refine hK.out _ _ (fun h => absurd rfl h) (fun _ => ?_)
      clear hK K1 hHeld
      refine wpAnyU_done (by kernel_rfl) ?_ _
      clear HF HWr HSy x1c
      go_wp2_with fail
      have hq1 : (q : Int) + 1 = ((q + 1 : Nat) : Int) := by omega
      refine ⟨⟨q + 1, by have := HL.out.1; omega, by rw [hq1], H7⟩, ?_⟩
      show n - ((q : Int) + 1).toNat < n - (q : Int).toNat
      have := HL.out.1
      omega
    · obtain rfl : q = n := by omega
      have HE := hid (show St W wr (amL X S K N x.says pv nn ++ T) from by
        have h := HQ.out
        rw [← HN.out, List.take_length, HX1.out, ← List.append_assoc] at h
        exact h.drop)
      clear hlt hq HQ
      go_wp2_with fail
      go_end0
      exact ⟨rfl, HE.out⟩

def Am.puts (x : Am) (t : ByteArray) : Am := if x.canPut t then { x with s := x.s.put t } else x
set_option maxHeartbeats 3200000 in
set_option maxRecDepth 100000 in
theorem st_aputs {X S K N nn : Nat} {x : Am} {pv : Value} (H : St W w (amL X S K N x pv nn ++ T)) (hl : x.s.texts.length ≤ 17) (t : ByteArray) :
    Calls Tryz.prog 24 #[ptr X, .string t] w fun e w' => ∃ pv', e = .returned (.tuple #[]) ∧ St W w' (amL X S K N (x.puts t) pv' nn ++ T) := by
  have hbX := H.blk 0 rfl
  have x0 := cell_blk (i := 0) hbX rfl
  have x1 := cell_blk (i := 1) hbX rfl
  have x7 := cell_blk (i := 7) hbX rfl
  obtain ⟨a, c, rfl, _, _⟩ := row_slice (H.row 4 rfl)
  obtain ⟨L, hL⟩ : ∃ L, x.s.texts.length = L := ⟨_, rfl⟩
  rw [hL] at x7 hl
  unfold Am.puts Am.canPut
  rw [hL]
  by_cases h17 : L = 17
  · have e : (!(L == 17) && !(decide (0 < L) && decide (t = ⟨#[]⟩)) && x.s.canPut t) = false := by rw [h17]; rfl
    rw [e, if_neg (by decide)]
    subst h17
    have H := hid H
    clear hbX hl hL e
    go_enter Tryz.func24, Tryz.ntmps24
    go_wp2_with fail
    refine bodyPost_ret (results_none rfl _ _ _) rfl ⟨_, rfl, H.out⟩
  · have h17b : (L == 17) = false := by rw [beq_eq_false_iff_ne]; exact h17
    have h17i : ((L : Int) == 17) = false := by rw [beq_eq_false_iff_ne]; omega
    rw [h17b]
    by_cases hz : 0 < L ∧ t = ⟨#[]⟩
    · obtain ⟨hz1, rfl⟩ := hz
      have e : (!false && !(decide (0 < L) && decide ((⟨#[]⟩ : ByteArray) = ⟨#[]⟩)) && x.s.canPut ⟨#[]⟩) = false := by simp [hz1]
      rw [e, if_neg (by decide)]
      have hz2 : decide (0 < L) = true := decide_eq_true hz1
      have H := hid H
      clear hbX hl hL e h17 h17b hz1
      go_enter Tryz.func24, Tryz.ntmps24
      go_wp2_with fail
      refine bodyPost_ret (results_none rfl _ _ _) rfl ⟨_, rfl, H.out⟩
    · have e : (!false && !(decide (0 < L) && decide (t = ⟨#[]⟩)) && x.s.canPut t) = x.s.canPut t := by
        have : (decide (0 < L) && decide (t = ⟨#[]⟩)) = false := by
          by_cases h1 : 0 < L
          · have h2 : t ≠ ⟨#[]⟩ := fun e => hz ⟨h1, e⟩
            simp [h2]
          · simp [h1]
        rw [this]; rfl
      rw [e]
      have HL := hid hl
      have HLe := hid hL
      by_cases h0 : 0 < L
      · have h2 : t ≠ ⟨#[]⟩ := fun e => hz ⟨h0, e⟩
        have hz9 : decide (0 < L) = true := decide_eq_true h0
        have e9 : t.toList.isEmpty = false := by
          rcases ht : t.toList with _ | ⟨u, r⟩
          · exfalso
            apply h2
            rw [ByteArray.toList_eq] at ht
            rcases t with ⟨⟨d⟩⟩
            simp only at ht
            rw [ht]
          · rfl
        clear h0 hz h2
        rcases hcp : x.s.canPut t with _ | _
        · rw [if_neg (by decide)]
          have HP := hid (st_sput_no H 1 rfl t hcp)
          clear H hbX hl hL e h17 h17b hcp
          go_enter Tryz.func24, Tryz.ntmps24
          go_wp2_with fail
          refine HP.out.mono ?_
          rintro e w1 ⟨z, rfl, hz, H1⟩
          have H1 := hid H1
          have hz2 : (z == 0) = false := by rw [beq_eq_false_iff_ne]; exact hz
          clear hz
          go_wp2_with fail
          go_end0
          exact ⟨_, rfl, H1.out⟩
        · rw [if_pos rfl]
          have HP := hid (st_sput H 1 rfl t hcp)
          clear H hbX hl hL e h17 h17b hcp
          go_enter Tryz.func24, Tryz.ntmps24
          go_wp2_with fail
          refine HP.out.mono ?_
          rintro e w1 ⟨rfl, H1⟩
          clear x0 x1 x7 HP
          have H1 : St W w1 ([BlkT X (amO S K N x (.slice a L c)), SnT S (x.s.put t), KnT K x.k nn, NtT N (x.bag.map pkA) x.sent, RowT 9 1 (.slice a L c) L (txC x.s.texts)] ++ T) := by
            rw [← HLe.out]
            exact H1
          have hb1 := H1.blk 0 rfl
          have y7 := cell_blk (i := 7) hb1 rfl
          have hg1 := lt_of_block hb1
          have H2 := hid (H1.alloc (.cells #[.string t] 9))
          obtain ⟨i0, hi0, hz0, hz1, hz2⟩ := info_parts info_tx
          have HI := hid (And.intro hi0 (And.intro hz0 (And.intro hz1 hz2)))
          have hbk := hid (get_end5 (BlkT X (amO S K N x (.slice a L c))) (SnT S (x.s.put t)) (KnT K x.k nn) (NtT N (x.bag.map pkA) x.sent) (RowT 9 1 (.slice a L c) L (txC x.s.texts)) T (BlkT w1.heap.size (.cells #[.string t] 9)))
          clear hi0 hz0 hz1 hz2 hb1 H1
          go_wp2_with (at_builtin; refine wpAdded H2.out 4 rfl (.tmp 47) (.tmp 49) 32 rfl 9 i0 (.string ByteArray.empty) 1 16 Tryz.underlying32 HI.out.1 HI.out.2.1 HI.out.2.2.1 HI.out.2.2.2 rfl (by decide) (.slice a L c) L (txC x.s.texts) rfl rfl (some ⟨w1.heap.size, 0, none⟩) 1 1 (fun q => ([.string t] : List Value).getD q undef) rfl (H2.out.blkIn (5 + T.length) 1 1 rfl (by decide) hbk.out) (fun j hj => by (obtain rfl : j = 0 := by omega); rfl) (by have := HL.out; unfold maxLen; omega) (by have := HL.out; omega) ?_)
          intro a5 c5 w5 H5
          rw [txC_snoc] at H5
          have b5 := H5.blk 0 rfl
          have z7 := cell_blk (i := 7) b5 rfl
          have f7 := free_blk (i := 7) b5
          have H6 := H5.setBlk 0 rfl 7 (.slice a5 (L + 1) c5)
          have H7 := hid (show St W (w5.setCell ⟨X, 7, none⟩ (.slice a5 (L + 1) c5)) (amL X S K N { x with s := x.s.put t } (.slice a5 (L + 1) c5) nn ++ T) from by
            have h : St W (w5.setCell ⟨X, 7, none⟩ (.slice a5 (L + 1) c5)) (([BlkT X (amO S K N { x with s := x.s.put t } (.slice a5 (L + 1) c5)), SnT S (x.s.put t), KnT K x.k nn, NtT N (x.bag.map pkA) x.sent, RowT 9 1 (.slice a5 (L + 1) c5) (L + 1) (txC (x.s.texts ++ [t]))] ++ T) ++ [BlkT w1.heap.size (.cells #[.string t] 9)]) := H6
            have h2 := h.drop
            have e : L + 1 = (x.s.texts ++ [t]).length := by rw [← HLe.out]; simp
            show St W _ ([_, _, _, _, RowT 9 1 (.slice a5 (L + 1) c5) (x.s.texts ++ [t]).length (txC (x.s.texts ++ [t]))] ++ T)
            rw [← e]
            exact h2)
          clear b5 H5 H6 H2 y7 hg1
          go_wp2_with fail
          go_end0
          exact ⟨_, rfl, H7.out⟩
      · have hz9 : decide (0 < L) = false := decide_eq_false h0
        have hz8 : ¬ (0 : Int) < L := by omega
        clear h0 hz
        rcases hcp : x.s.canPut t with _ | _
        · rw [if_neg (by decide)]
          have HP := hid (st_sput_no H 1 rfl t hcp)
          clear H hbX hl hL e h17 h17b hcp
          go_enter Tryz.func24, Tryz.ntmps24
          go_wp2_with fail
          refine HP.out.mono ?_
          rintro e w1 ⟨z, rfl, hz, H1⟩
          have H1 := hid H1
          have hz2 : (z == 0) = false := by rw [beq_eq_false_iff_ne]; exact hz
          clear hz
          go_wp2_with fail
          go_end0
          exact ⟨_, rfl, H1.out⟩
        · rw [if_pos rfl]
          have HP := hid (st_sput H 1 rfl t hcp)
          clear H hbX hl hL e h17 h17b hcp
          go_enter Tryz.func24, Tryz.ntmps24
          go_wp2_with fail
          refine HP.out.mono ?_
          rintro e w1 ⟨rfl, H1⟩
          clear x0 x1 x7 HP
          have H1 : St W w1 ([BlkT X (amO S K N x (.slice a L c)), SnT S (x.s.put t), KnT K x.k nn, NtT N (x.bag.map pkA) x.sent, RowT 9 1 (.slice a L c) L (txC x.s.texts)] ++ T) := by
            rw [← HLe.out]
            exact H1
          have hb1 := H1.blk 0 rfl
          have y7 := cell_blk (i := 7) hb1 rfl
          have hg1 := lt_of_block hb1
          have H2 := hid (H1.alloc (.cells #[.string t] 9))
          obtain ⟨i0, hi0, hz0, hz1, hz2⟩ := info_parts info_tx
          have HI := hid (And.intro hi0 (And.intro hz0 (And.intro hz1 hz2)))
          have hbk := hid (get_end5 (BlkT X (amO S K N x (.slice a L c))) (SnT S (x.s.put t)) (KnT K x.k nn) (NtT N (x.bag.map pkA) x.sent) (RowT 9 1 (.slice a L c) L (txC x.s.texts)) T (BlkT w1.heap.size (.cells #[.string t] 9)))
          clear hi0 hz0 hz1 hz2 hb1 H1
          go_wp2_with (at_builtin; refine wpAdded H2.out 4 rfl (.tmp 47) (.tmp 49) 32 rfl 9 i0 (.string ByteArray.empty) 1 16 Tryz.underlying32 HI.out.1 HI.out.2.1 HI.out.2.2.1 HI.out.2.2.2 rfl (by decide) (.slice a L c) L (txC x.s.texts) rfl rfl (some ⟨w1.heap.size, 0, none⟩) 1 1 (fun q => ([.string t] : List Value).getD q undef) rfl (H2.out.blkIn (5 + T.length) 1 1 rfl (by decide) hbk.out) (fun j hj => by (obtain rfl : j = 0 := by omega); rfl) (by have := HL.out; unfold maxLen; omega) (by have := HL.out; omega) ?_)
          intro a5 c5 w5 H5
          rw [txC_snoc] at H5
          have b5 := H5.blk 0 rfl
          have z7 := cell_blk (i := 7) b5 rfl
          have f7 := free_blk (i := 7) b5
          have H6 := H5.setBlk 0 rfl 7 (.slice a5 (L + 1) c5)
          have H7 := hid (show St W (w5.setCell ⟨X, 7, none⟩ (.slice a5 (L + 1) c5)) (amL X S K N { x with s := x.s.put t } (.slice a5 (L + 1) c5) nn ++ T) from by
            have h : St W (w5.setCell ⟨X, 7, none⟩ (.slice a5 (L + 1) c5)) (([BlkT X (amO S K N { x with s := x.s.put t } (.slice a5 (L + 1) c5)), SnT S (x.s.put t), KnT K x.k nn, NtT N (x.bag.map pkA) x.sent, RowT 9 1 (.slice a5 (L + 1) c5) (L + 1) (txC (x.s.texts ++ [t]))] ++ T) ++ [BlkT w1.heap.size (.cells #[.string t] 9)]) := H6
            have h2 := h.drop
            have e : L + 1 = (x.s.texts ++ [t]).length := by rw [← HLe.out]; simp
            show St W _ ([_, _, _, _, RowT 9 1 (.slice a5 (L + 1) c5) (x.s.texts ++ [t]).length (txC (x.s.texts ++ [t]))] ++ T)
            rw [← e]
            exact h2)
          clear b5 H5 H6 H2 y7 hg1
          go_wp2_with fail
          go_end0
          exact ⟨_, rfl, H7.out⟩
end

end Go.Proofs.YtkiccbjngokpjaaGreat

/-
  the artefacts of top: comes.
-/
namespace Go.Proofs.YtkiccbjngokpjaaGreat
open Go.RowKit
set_option linter.unusedVariables false
set_option linter.unusedSimpArgs false

theorem Am.comes_other {x : Am} {b : Nat} (c : Nat) (h : b ≠ x.badge) : x.comes (.took b c) = x := by rw [Am.comes_took, if_neg h]
theorem Am.comes_own {x : Am} {b : Nat} (c : Nat) (h : b = x.badge) : x.comes (.took b c) = { x with s := x.s.ack c } := by rw [Am.comes_took, if_pos h]
theorem Am.comes_ref (x : Am) (b : Nat) : x.comes (.refused b) = x := rfl
theorem Am.comes_put2 (x : Am) (b i : Nat) (t : ByteArray) : (x.comes (.put b i t)).bag.map pkA = x.bag.map pkA ++ [⟨nextN x.sent, 1, 0, 2, b, (x.k.says b i t).enc⟩] ∧ (x.comes (.put b i t)).k = x.k.put b i t ∧ (x.comes (.put b i t)).s = x.s ∧ (x.comes (.put b i t)).olds = x.olds ∧ (x.comes (.put b i t)).sent = nextN x.sent := by
  rw [Am.comes_put_]
  unfold Kn.says
  rcases hl : x.k.low b with _ | _
  · rw [if_neg (by decide), if_neg (by decide)]
    exact ⟨by rw [amap_send]; rfl, rfl, rfl, rfl, rfl⟩
  · rw [if_pos rfl, if_pos rfl]
    refine ⟨by rw [amap_send]; rfl, ?_, rfl, rfl, rfl⟩
    rw [Kn.put_not (Kn.low_not hl)]
    rfl
section
variable {W : Base} {w : World} {T : List Thing}
set_option maxHeartbeats 6400000 in
set_option maxRecDepth 100000 in
theorem st_acomes_took {X S K N nn : Nat} {x : Am} {pv : Value} (H : St W w (amL X S K N x pv nn ++ T)) (num : Int) (b c : Nat) (hb1 : 1 ≤ b) (hb2 : b ≤ x.badge) (hbd : x.badge ≤ 1099511627776) (hc : c ≤ 17) :
    Calls Tryz.prog 28 #[ptr X, dgV (pkA (num, .took b c))] w fun e w' => e = .returned (.tuple #[]) ∧ St W w' (amL X S K N (x.comes (.took b c)) pv nn ++ T) := by
  have hm := mTook_ok (b := b) (c := c) hb1 (by omega) hc
  have HBe := hid (And.intro hb1 (And.intro hb2 hbd))
  show Calls Tryz.prog 28 #[ptr X, dgV ⟨num, 1, 0, 2, b, (mTook b c).enc⟩] w _
  clear hb1 hb2 hbd hc
  have H2 := hid (H.alloc (dgO ⟨num, 1, 0, 2, b, (mTook b c).enc⟩))
  have HD := hid (st_wdecode H2.out (mTook b c) hm)
  have hpd : (amL X S K N x pv nn ++ T ++ [BlkT w.heap.size (dgO ⟨num, 1, 0, 2, b, (mTook b c).enc⟩)])[5 + T.length]? = some (BlkT w.heap.size (dgO ⟨num, 1, 0, 2, b, (mTook b c).enc⟩)) := get_end5 _ _ _ _ _ _ _
  have hb2 := H2.out.blk _ hpd
  obtain ⟨d0, d1, d2, d3, d4, d5⟩ := dg_cells hb2
  generalize (mTook b c).enc = en at *
  clear H hm hb2
  have hsf := run_store_func
  dsimp only [dgV]
  go_enter Tryz.func28, Tryz.ntmps28
  go_wp2_with fail
  refine HD.out.mono ?_
  rintro e w1 ⟨rfl, H3⟩
  clear HD d0 d1 d2 d3 d4 d5 H2
  have H4 := H3.alloc (mO (mTook b c))
  dsimp only [mTook, mRef, MV.of, MV.f, mO] at H4 ⊢
  go_upto_region 2 with (fail)
  clear H3 hpd
  generalize w1.alloc _ = w2 at H4 ⊢
  generalize w1.heap.size = pm at H4 ⊢
  generalize w.heap.size = pd at H4 ⊢
  have H4 : St W w2 ((amL X S K N x pv nn ++ T) ++ [BlkT pd (dgO ⟨num, 1, 0, 2, b, en⟩), BlkT pm (mO (mTook b c))]) := by
    rw [List.append_assoc] at H4
    exact H4
  have hbd := H4.blk _ (get_behind _ _ 0)
  obtain ⟨d0, d1, d2, d3, d4, d5⟩ := dg_cells hbd
  have hbm : w2.heap[pm]? = some (mO (mTook b c)) := H4.blk _ (get_behind _ _ 1)
  obtain ⟨m0, m1, m2, m3, m4, m5, m6, m7, m8, m9, m10⟩ := msg_cells hbm
  have hbX := H4.blk 0 rfl
  obtain ⟨bd, hbe⟩ : ∃ bd, x.badge = bd := ⟨_, rfl⟩
  dsimp only [amO] at hbX
  rw [hbe] at hbX
  have HWr := hid (show ∀ wx, Fr [] w2 wx → Calls Tryz.prog 42 #[ptr X] wx fun e w' => e = .returned (adV 2 bd) ∧ Fr [] wx w' from fun wx hF => writer_blk (hF.keep hbX (by simp)))
  have HK := hid (show ∀ wx, Fr [] w2 wx → wx.cell? ⟨X, 0, none⟩ = some (ptr S) ∧ wx.cell? ⟨X, 6, none⟩ = some (.int .i64 bd) ∧ wx.cell? ⟨pm, 0, none⟩ = some (.int .i64 (mTook b c).kind) ∧ wx.cell? ⟨pm, 4, none⟩ = some (.int .i64 b) ∧ wx.cell? ⟨pm, 6, none⟩ = some (.int .i64 (mTook b c).cnt) ∧ wx.cell? ⟨pd, 3, none⟩ = some (.int .i64 2) ∧ wx.cell? ⟨pd, 4, none⟩ = some (.int .i64 b) from fun wx hF =>
    ⟨cell_blk (i := 0) (hF.keep hbX (by simp)) rfl, cell_blk (i := 6) (hF.keep hbX (by simp)) rfl, hF.cell0 m0, hF.cell0 m4, hF.cell0 m6, hF.cell0 d3, hF.cell0 d4⟩)
  dsimp only [mTook, mRef, MV.of] at HK
  have HBe := hid hbe
  have H4 := hid H4
  clear hbd hbm hbX d0 d1 d2 d4 d5 m0 m1 m2 m3 m4 m5 m6 m7 m8 m9 m10 hbe
  by_cases own : b = bd
  · subst own
    go_wp2_with fail
    refine wp_region_calm (S := fun wx : World => Fr [] w2 wx) (by kernel_rfl) (by kernel_rfl) ((Fr.refl _ _).drew) ?_
    repeat (first | (refine calmRow_free (v := ?_) rfl ?_ ?_; rotate_left; (focus (intro wx hSx; (try dsimp only at hSx); have hcx := HK.out wx hSx; go_simp; (first | with_reducible rfl | exact ⟨rfl, hSx⟩ | (refine (HWr.out _ hSx).mono ?_; rintro e w9 ⟨rfl, hF9⟩; refine ⟨?_, hSx.trans hF9⟩; with_reducible rfl)))); (try simp only [Act.put, List.setIfInBounds_toArray, List.set_cons_zero, List.set_cons_succ])) | (refine calmRow_skip ?_ ?_; (focus (go_simp; (try (intro hx; cases hx)); done)); (try simp only [Act.put, List.setIfInBounds_toArray, List.set_cons_zero, List.set_cons_succ])) | (refine calmRow_take (v := ?_) ?_ ?_ ?_; rotate_left; (focus (go_simp; done)); (focus (intro wx hSx; (try dsimp only at hSx); have hcx := HK.out wx hSx; go_simp; (first | with_reducible rfl | exact ⟨rfl, hSx⟩ | (refine (HWr.out _ hSx).mono ?_; rintro e w9 ⟨rfl, hF9⟩; refine ⟨?_, hSx.trans hF9⟩; with_reducible rfl)))); (try simp only [Act.put, List.setIfInBounds_toArray, List.set_cons_zero, List.set_cons_succ])))
    refine calmRow_nil ?_
    intro wn hFx
    try dsimp only at hFx
    go_wp2_with fail
    refine wp_region_U (S := fun wx : World => wx.cell? ⟨X, 0, none⟩ = some (ptr S) ∧ wx.cell? ⟨pm, 6, none⟩ = some (.int .i64 c)) 6 (by kernel_rfl) ⟨(HK.out _ (hFx.trans ((Fr.refl [] wn).drew))).1, (HK.out _ (hFx.trans ((Fr.refl [] wn).drew))).2.2.2.2.1⟩ (fun hHeld => ?_)
    refine takeU (i := 0) (d := 84) (v := ?_) rfl rfl (by kernel_rfl) (by kernel_rfl) (by kernel_rfl) (by kernel_rfl) (by kernel_rfl) (fun _ _ _ h => h) (Or.inl ⟨by rfl, ?_⟩) hHeld ?_
    rotate_left
    · intro wq hSw; (try dsimp only at hSw); go_simp; all_goals (with_reducible rfl)
    simp only [Act.put, List.setIfInBounds_toArray, List.set_cons_zero, List.set_cons_succ]
    refine takeU (i := 1) (d := 85) (v := ?_) rfl rfl (by kernel_rfl) (by kernel_rfl) (by kernel_rfl) (by kernel_rfl) (by kernel_rfl) (fun _ _ _ h => h) (Or.inl ⟨by rfl, ?_⟩) hHeld ?_
    rotate_left
    · intro wq hSw; (try dsimp only at hSw); go_simp; all_goals (with_reducible rfl)
    simp only [Act.put, List.setIfInBounds_toArray, List.set_cons_zero, List.set_cons_succ]
    refine takeU (i := 2) (d := 86) (v := ?_) rfl rfl (by kernel_rfl) (by kernel_rfl) (by kernel_rfl) (by kernel_rfl) (by kernel_rfl) (fun _ _ _ h => h) (Or.inl ⟨by rfl, ?_⟩) hHeld ?_
    rotate_left
    · intro wq hSw; (try dsimp only at hSw); go_simp; all_goals (with_reducible rfl)
    simp only [Act.put, List.setIfInBounds_toArray, List.set_cons_zero, List.set_cons_succ]
    refine takeU (i := 3) (d := 87) (v := ?_) rfl rfl (by kernel_rfl) (by kernel_rfl) (by kernel_rfl) (by kernel_rfl) (by kernel_rfl) (fun _ _ _ h => h) (Or.inl ⟨by rfl, ?_⟩) hHeld ?_
    rotate_left
    · intro wq hSw; (try dsimp only at hSw); go_simp; all_goals (with_reducible rfl)
    simp only [Act.put, List.setIfInBounds_toArray, List.set_cons_zero, List.set_cons_succ]
    refine takeU (i := 4) (d := 88) (v := ?_) rfl rfl (by kernel_rfl) (by kernel_rfl) (by kernel_rfl) (by kernel_rfl) (by kernel_rfl) (fun _ _ _ h => h) (Or.inl ⟨by rfl, ?_⟩) hHeld ?_
    rotate_left
    · intro wq hSw; (try dsimp only at hSw); go_simp; all_goals (with_reducible rfl)
    simp only [Act.put, List.setIfInBounds_toArray, List.set_cons_zero, List.set_cons_succ]
    refine takeU (i := 5) (d := 89) (v := ?_) rfl rfl (by kernel_rfl) (by kernel_rfl) (by kernel_rfl) (by kernel_rfl) (by kernel_rfl) (fun _ _ _ h => h) (Or.inl ⟨by rfl, ?_⟩) hHeld ?_
    rotate_left
    · intro wq hSw; (try dsimp only at hSw); go_simp; all_goals (with_reducible rfl)
    simp only [Act.put, List.setIfInBounds_toArray, List.set_cons_zero, List.set_cons_succ]
    refine wpAnyU_ready (rs := [6]) (by kernel_rfl) (by simp) ?_
    refine AllReadyU.cons rfl (fun K1 hK => ?_) AllReadyU.nil
    go_simp
    go_at_call 46
    refine (st_sack (H4.out.same (hFx.trans ((Fr.refl [] wn).drew))) 1 rfl c).mono ?_
    rintro e w6 ⟨rfl, H7⟩
    have H7 := hid H7
    go_simp
    refine hK.out _ _ (fun h => absurd rfl h) (fun _ => ?_)
    clear hK K1 hHeld
    refine wpAnyU_done (by kernel_rfl) ?_ _
    clear HK HWr H4
    go_wp2_with fail
    go_end0
    rw [Am.comes_own c HBe.out.symm]
    refine ⟨rfl, ?_⟩
    obtain ⟨a1, a2, a3, a4⟩ := Sn.ack_is x.s c
    have h : St W w6 (([BlkT X (amO S K N x pv), SnT S (x.s.ack c), KnT K x.k nn, NtT N (x.bag.map pkA) x.sent, RowT 9 1 pv x.s.texts.length (txC x.s.texts)] ++ T) ++ [BlkT pd (dgO ⟨num, 1, 0, 2, b, en⟩), BlkT pm (mO (mTook b c))]) := H7.out
    have h := h.drop
    show St W w6 ([BlkT X (stO (ptr S) (.pointer none) (ptr K) N (x.s.ack c).win (x.s.ack c).res x.badge pv (.slice none 0 0)), SnT S (x.s.ack c), KnT K x.k nn, NtT N (x.bag.map pkA) x.sent, RowT 9 1 pv (x.s.ack c).texts.length (txC (x.s.ack c).texts)] ++ T)
    rw [a1, a2, a3]
    exact h
  · have HNo := hid (Am.comes_other (x := x) c (fun e => own (e.trans HBe.out)))
    have hne : ((b : Int) == bd) = false := by rw [beq_eq_false_iff_ne]; omega
    clear own
    go_wp2_with fail
    refine wp_region_calm (S := fun wx : World => Fr [] w2 wx) (by kernel_rfl) (by kernel_rfl) ((Fr.refl _ _).drew) ?_
    repeat (first | (refine calmRow_free (v := ?_) rfl ?_ ?_; rotate_left; (focus (intro wx hSx; (try dsimp only at hSx); have hcx := HK.out wx hSx; go_simp; (first | with_reducible rfl | exact ⟨rfl, hSx⟩ | (refine (HWr.out _ hSx).mono ?_; rintro e w9 ⟨rfl, hF9⟩; refine ⟨?_, hSx.trans hF9⟩; with_reducible rfl)))); (try simp only [Act.put, List.setIfInBounds_toArray, List.set_cons_zero, List.set_cons_succ])) | (refine calmRow_skip ?_ ?_; (focus (go_simp; (try (intro hx; cases hx)); done)); (try simp only [Act.put, List.setIfInBounds_toArray, List.set_cons_zero, List.set_cons_succ])) | (refine calmRow_take (v := ?_) ?_ ?_ ?_; rotate_left; (focus (go_simp; done)); (focus (intro wx hSx; (try dsimp only at hSx); have hcx := HK.out wx hSx; go_simp; (first | with_reducible rfl | exact ⟨rfl, hSx⟩ | (refine (HWr.out _ hSx).mono ?_; rintro e w9 ⟨rfl, hF9⟩; refine ⟨?_, hSx.trans hF9⟩; with_reducible rfl)))); (try simp only [Act.put, List.setIfInBounds_toArray, List.set_cons_zero, List.set_cons_succ])))
    refine calmRow_nil ?_
    intro wn hFx
    try dsimp only at hFx
    go_wp2_with fail
    go_end0
    rw [HNo.out]
    exact ⟨rfl, (H4.out.same hFx).drop⟩
set_option maxHeartbeats 6400000 in
set_option maxRecDepth 100000 in
theorem st_acomes_ref {X S K N nn : Nat} {x : Am} {pv : Value} (H : St W w (amL X S K N x pv nn ++ T)) (num : Int) (b : Nat) (hb1 : 1 ≤ b) (hb2 : b ≤ x.badge) (hbd : x.badge ≤ 1099511627776) :
    Calls Tryz.prog 28 #[ptr X, dgV (pkA (num, .refused b))] w fun e w' => e = .returned (.tuple #[]) ∧ St W w' (amL X S K N (x.comes (.refused b)) pv nn ++ T) := by
  have hm := mRef_ok (b := b) hb1 (by omega)
  show Calls Tryz.prog 28 #[ptr X, dgV ⟨num, 1, 0, 2, b, (mRef b).enc⟩] w _
  rw [Am.comes_ref]
  clear hb1 hb2 hbd
  have H2 := hid (H.alloc (dgO ⟨num, 1, 0, 2, b, (mRef b).enc⟩))
  have HD := hid (st_wdecode H2.out (mRef b) hm)
  have hpd : (amL X S K N x pv nn ++ T ++ [BlkT w.heap.size (dgO ⟨num, 1, 0, 2, b, (mRef b).enc⟩)])[5 + T.length]? = some (BlkT w.heap.size (dgO ⟨num, 1, 0, 2, b, (mRef b).enc⟩)) := get_end5 _ _ _ _ _ _ _
  have hb2 := H2.out.blk _ hpd
  obtain ⟨d0, d1, d2, d3, d4, d5⟩ := dg_cells hb2
  generalize (mRef b).enc = en at *
  clear H hm hb2
  have hsf := run_store_func
  dsimp only [dgV]
  go_enter Tryz.func28, Tryz.ntmps28
  go_wp2_with fail
  refine HD.out.mono ?_
  rintro e w1 ⟨rfl, H3⟩
  clear HD d0 d1 d2 d3 d4 d5 H2
  have H4 := H3.alloc (mO (mRef b))
  dsimp only [mTook, mRef, MV.of, MV.f, mO] at H4 ⊢
  go_upto_region 2 with (fail)
  clear H3 hpd
  generalize w1.alloc _ = w2 at H4 ⊢
  generalize w1.heap.size = pm at H4 ⊢
  generalize w.heap.size = pd at H4 ⊢
  have H4 : St W w2 ((amL X S K N x pv nn ++ T) ++ [BlkT pd (dgO ⟨num, 1, 0, 2, b, en⟩), BlkT pm (mO (mRef b))]) := by
    rw [List.append_assoc] at H4
    exact H4
  have hbd := H4.blk _ (get_behind _ _ 0)
  obtain ⟨d0, d1, d2, d3, d4, d5⟩ := dg_cells hbd
  have hbm : w2.heap[pm]? = some (mO (mRef b)) := H4.blk _ (get_behind _ _ 1)
  obtain ⟨m0, m1, m2, m3, m4, m5, m6, m7, m8, m9, m10⟩ := msg_cells hbm
  have hbX := H4.blk 0 rfl
  obtain ⟨bd, hbe⟩ : ∃ bd, x.badge = bd := ⟨_, rfl⟩
  dsimp only [amO] at hbX
  rw [hbe] at hbX
  have HWr := hid (show ∀ wx, Fr [] w2 wx → Calls Tryz.prog 42 #[ptr X] wx fun e w' => e = .returned (adV 2 bd) ∧ Fr [] wx w' from fun wx hF => writer_blk (hF.keep hbX (by simp)))
  have HK := hid (show ∀ wx, Fr [] w2 wx → wx.cell? ⟨X, 0, none⟩ = some (ptr S) ∧ wx.cell? ⟨X, 6, none⟩ = some (.int .i64 bd) ∧ wx.cell? ⟨pm, 0, none⟩ = some (.int .i64 (mRef b).kind) ∧ wx.cell? ⟨pm, 4, none⟩ = some (.int .i64 b) ∧ wx.cell? ⟨pm, 6, none⟩ = some (.int .i64 (mRef b).cnt) ∧ wx.cell? ⟨pd, 3, none⟩ = some (.int .i64 2) ∧ wx.cell? ⟨pd, 4, none⟩ = some (.int .i64 b) from fun wx hF =>
    ⟨cell_blk (i := 0) (hF.keep hbX (by simp)) rfl, cell_blk (i := 6) (hF.keep hbX (by simp)) rfl, hF.cell0 m0, hF.cell0 m4, hF.cell0 m6, hF.cell0 d3, hF.cell0 d4⟩)
  dsimp only [mTook, mRef, MV.of] at HK
  have HBe := hid hbe
  have H4 := hid H4
  clear hbd hbm hbX d0 d1 d2 d4 d5 m0 m1 m2 m3 m4 m5 m6 m7 m8 m9 m10 hbe
  have hbe : ∃ z : Bool, ((b : Int) == bd) = z := ⟨_, rfl⟩
  by_cases own : b = bd
  · subst own
    go_wp2_with fail
    refine wp_region_calm (S := fun wx : World => Fr [] w2 wx) (by kernel_rfl) (by kernel_rfl) ((Fr.refl _ _).drew) ?_
    repeat (first | (refine calmRow_free (v := ?_) rfl ?_ ?_; rotate_left; (focus (intro wx hSx; (try dsimp only at hSx); have hcx := HK.out wx hSx; go_simp; (first | with_reducible rfl | exact ⟨rfl, hSx⟩ | (refine (HWr.out _ hSx).mono ?_; rintro e w9 ⟨rfl, hF9⟩; refine ⟨?_, hSx.trans hF9⟩; with_reducible rfl)))); (try simp only [Act.put, List.setIfInBounds_toArray, List.set_cons_zero, List.set_cons_succ])) | (refine calmRow_skip ?_ ?_; (focus (go_simp; (try (intro hx; cases hx)); done)); (try simp only [Act.put, List.setIfInBounds_toArray, List.set_cons_zero, List.set_cons_succ])) | (refine calmRow_take (v := ?_) ?_ ?_ ?_; rotate_left; (focus (go_simp; done)); (focus (intro wx hSx; (try dsimp only at hSx); have hcx := HK.out wx hSx; go_simp; (first | with_reducible rfl | exact ⟨rfl, hSx⟩ | (refine (HWr.out _ hSx).mono ?_; rintro e w9 ⟨rfl, hF9⟩; refine ⟨?_, hSx.trans hF9⟩; with_reducible rfl)))); (try simp only [Act.put, List.setIfInBounds_toArray, List.set_cons_zero, List.set_cons_succ])))
    refine calmRow_nil ?_
    intro wn hFx
    try dsimp only at hFx
    go_wp2_with fail
    go_end0
    exact ⟨rfl, (H4.out.same hFx).drop⟩
  · have hne : ((b : Int) == bd) = false := by rw [beq_eq_false_iff_ne]; omega
    clear own
    go_wp2_with fail
    refine wp_region_calm (S := fun wx : World => Fr [] w2 wx) (by kernel_rfl) (by kernel_rfl) ((Fr.refl _ _).drew) ?_
    repeat (first | (refine calmRow_free (v := ?_) rfl ?_ ?_; rotate_left; (focus (intro wx hSx; (try dsimp only at hSx); have hcx := HK.out wx hSx; go_simp; (first | with_reducible rfl | exact ⟨rfl, hSx⟩ | (refine (HWr.out _ hSx).mono ?_; rintro e w9 ⟨rfl, hF9⟩; refine ⟨?_, hSx.trans hF9⟩; with_reducible rfl)))); (try simp only [Act.put, List.setIfInBounds_toArray, List.set_cons_zero, List.set_cons_succ])) | (refine calmRow_skip ?_ ?_; (focus (go_simp; (try (intro hx; cases hx)); done)); (try simp only [Act.put, List.setIfInBounds_toArray, List.set_cons_zero, List.set_cons_succ])) | (refine calmRow_take (v := ?_) ?_ ?_ ?_; rotate_left; (focus (go_simp; done)); (focus (intro wx hSx; (try dsimp only at hSx); have hcx := HK.out wx hSx; go_simp; (first | with_reducible rfl | exact ⟨rfl, hSx⟩ | (refine (HWr.out _ hSx).mono ?_; rintro e w9 ⟨rfl, hF9⟩; refine ⟨?_, hSx.trans hF9⟩; with_reducible rfl)))); (try simp only [Act.put, List.setIfInBounds_toArray, List.set_cons_zero, List.set_cons_succ])))
    refine calmRow_nil ?_
    intro wn hFx
    try dsimp only at hFx
    go_wp2_with fail
    go_end0
    exact ⟨rfl, (H4.out.same hFx).drop⟩
end

end Go.Proofs.YtkiccbjngokpjaaGreat

/-
  the artefacts of top: a piece comes at the sink; comes, whole.
-/
namespace Go.Proofs.YtkiccbjngokpjaaGreat
open Go.RowKit
set_option linter.unusedVariables false
set_option linter.unusedSimpArgs false

theorem Am.ok.ps_few {x : Am} (h : x.ok) : x.k.ps.length ≤ 16 := by
  unfold Kn.ps
  rcases hh : x.k.held with _ | ⟨B, ps⟩
  · simp
  · obtain ⟨h1, h2, h3⟩ := h.kn B ps hh
    have h4 := congrArg List.length h3
    rw [List.length_take, List.length_cons] at h4
    have h5 := (h.tx B).1
    simp only
    omega
theorem Am.ok.phi_few {x : Am} (h : x.ok) : x.k.phi ≤ 18 * x.badge + 17 := by
  have hp := h.ps_few
  unfold Kn.ps at hp
  unfold Kn.phi
  rcases hh : x.k.held with _ | ⟨B, ps⟩
  · simp
  · obtain ⟨h1, h2, h3⟩ := h.kn B ps hh
    rw [hh] at hp
    have hp : ps.length ≤ 16 := hp
    simp only
    omega
section
variable {W : Base} {w : World} {T : List Thing}
set_option maxHeartbeats 6400000 in
set_option maxRecDepth 100000 in
theorem st_acomes_put {X S K N nn : Nat} {x : Am} {pv : Value} (H : St W w (amL X S K N x pv nn ++ T)) (hx : x.ok) (hbd : x.badge ≤ 16777216) (hbl : x.bag.length ≤ 536870912) (hph : nn ≤ x.k.phi) (num : Int) (b i : Nat) (t : ByteArray) (hp : PzOk x.badge x.s.said x.next x.allOf (.put b i t)) :
    Calls Tryz.prog 28 #[ptr X, dgV (pkA (num, .put b i t))] w fun e w' => ∃ nn', Hid (nn' ≤ (x.comes (.put b i t)).k.phi) ∧ e = .returned (.tuple #[]) ∧ St W w' (amL X S K N (x.comes (.put b i t)) pv nn' ++ T) := by
  have hok := hx.comes hp
  obtain ⟨p1, p2, p3, p4⟩ := hp
  have htx := hx.tx b
  have ht : t.size ≤ 32 := htx.2.1 t (List.mem_of_getElem? p3)
  have hi : i ≤ 16 := by have := (List.getElem?_eq_some_iff.1 p3).1; have := htx.1; omega
  have h0 : i = 0 → t = ⟨#[]⟩ := fun e => htx.2.2 t (by rw [← e]; exact p3)
  have hb2 : b ≤ 1099511627776 := by omega
  have hpf := hx.phi_few
  obtain ⟨e1, e2, e3, e4, e5⟩ := Am.comes_put2 x b i t
  have hps : (x.k.put b i t).ps.length ≤ 16 := by rw [← e2]; exact hok.ps_few
  have HEq := hid (And.intro e1 (And.intro e2 (And.intro e3 (And.intro e4 e5))))
  have HHe := hid (fun (wx : World) (L : List Thing) (h : St W wx ((amL X S K N x pv nn ++ T) ++ L)) => st_khear (fn := 2) (fl := b) h 2 rfl b i t p1 hb2 ht h0 hx.ps_few hps hi (by omega) hph)
  have hm := mPut_ok p1 hb2 hi ht h0
  have HB := hid (And.intro hbl (And.intro p1 hb2))
  show Calls Tryz.prog 28 #[ptr X, dgV ⟨num, 2, b, 1, 0, (mPut b i t).enc⟩] w _
  have H2 := hid (H.alloc (dgO ⟨num, 2, b, 1, 0, (mPut b i t).enc⟩))
  have HD := hid (st_wdecode H2.out (mPut b i t) hm)
  have hb2 := H2.out.blk _ (get_end5 _ _ _ _ _ _ _)
  obtain ⟨d0, d1, d2, d3, d4, d5⟩ := dg_cells hb2
  generalize (mPut b i t).enc = en at *
  clear H hm hb2 hok p1 p2 p3 p4 htx ht hi h0 hpf e1 e2 e3 e4 e5 hps hx hbd hbl hph
  have hsf := run_store_func
  dsimp only [dgV]
  go_enter Tryz.func28, Tryz.ntmps28
  go_wp2_with fail
  refine HD.out.mono ?_
  rintro e w1 ⟨rfl, H3⟩
  clear HD d0 d1 d2 d3 d4 d5 H2
  have H4 := H3.alloc (mO (mPut b i t))
  dsimp only [mPut, MV.of, MV.f, mO] at H4 ⊢
  go_upto_region 2 with (fail)
  clear H3
  generalize w1.alloc _ = w2 at H4 ⊢
  generalize w1.heap.size = pm at H4 ⊢
  generalize w.heap.size = pd at H4 ⊢
  have H4 : St W w2 ((amL X S K N x pv nn ++ T) ++ [BlkT pd (dgO ⟨num, 2, b, 1, 0, en⟩), BlkT pm (mO (mPut b i t))]) := by
    rw [List.append_assoc] at H4
    exact H4
  have hbd := H4.blk _ (get_behind _ _ 0)
  obtain ⟨d0, d1, d2, d3, d4, d5⟩ := dg_cells hbd
  have hbX := H4.blk 0 rfl
  have x1 := cell_blk (i := 1) hbX rfl
  have HC := hid (show ∀ wx, Fr [] w2 wx → wx.cell? ⟨X, 2, none⟩ = some (ptr K) ∧ (wx.cell? ⟨pd, 1, none⟩ = some (.int .i64 2) ∧ wx.cell? ⟨pd, 2, none⟩ = some (.int .i64 b)) ∧ wx.cell? ⟨pd, 5, none⟩ = some (.string en) from fun wx hF =>
    ⟨cell_blk (i := 2) (hF.keep hbX (by simp)) rfl, ⟨hF.cell0 d1, hF.cell0 d2⟩, hF.cell0 d5⟩)
  have H4 := hid H4
  clear hbd hbX d0 d1 d2 d4 d5
  go_wp2_with fail
  refine wp_region_U (S := fun wx : World => wx.cell? ⟨X, 2, none⟩ = some (ptr K) ∧ (wx.cell? ⟨pd, 1, none⟩ = some (.int .i64 2) ∧ wx.cell? ⟨pd, 2, none⟩ = some (.int .i64 b)) ∧ wx.cell? ⟨pd, 5, none⟩ = some (.string en)) 9 (by kernel_rfl) (HC.out _ ((Fr.refl _ _).drew)) (fun hHeld => ?_)
  refine takeU (i := 0) (d := 97) (v := ?_) rfl rfl (by kernel_rfl) (by kernel_rfl) (by kernel_rfl) (by kernel_rfl) (by kernel_rfl) (fun _ _ _ h => h) (Or.inl ⟨by rfl, ?_⟩) hHeld ?_
  rotate_left
  · intro wq hSw; (try dsimp only at hSw); go_simp; all_goals (with_reducible rfl)
  simp only [Act.put, List.setIfInBounds_toArray, List.set_cons_zero, List.set_cons_succ]
  refine takeU (i := 1) (d := 98) (v := ?_) rfl rfl (by kernel_rfl) (by kernel_rfl) (by kernel_rfl) (by kernel_rfl) (by kernel_rfl) (fun _ _ _ h => h) (Or.inl ⟨by rfl, ?_⟩) hHeld ?_
  rotate_left
  · intro wq hSw; (try dsimp only at hSw); go_simp; all_goals (with_reducible rfl)
  simp only [Act.put, List.setIfInBounds_toArray, List.set_cons_zero, List.set_cons_succ]
  refine takeU (i := 2) (d := 99) (v := ?_) rfl rfl (by kernel_rfl) (by kernel_rfl) (by kernel_rfl) (by kernel_rfl) (by kernel_rfl) (fun _ _ _ h => h) (Or.inl ⟨by rfl, ?_⟩) hHeld ?_
  rotate_left
  · intro wq hSw; (try dsimp only at hSw); go_simp; all_goals (with_reducible rfl)
  simp only [Act.put, List.setIfInBounds_toArray, List.set_cons_zero, List.set_cons_succ]
  refine takeU (i := 3) (d := 100) (v := ?_) rfl rfl (by kernel_rfl) (by kernel_rfl) (by kernel_rfl) (by kernel_rfl) (by kernel_rfl) (fun _ _ _ h => h) (Or.inl ⟨by rfl, ?_⟩) hHeld ?_
  rotate_left
  · intro wq hSw; (try dsimp only at hSw); go_simp; all_goals (with_reducible rfl)
  simp only [Act.put, List.setIfInBounds_toArray, List.set_cons_zero, List.set_cons_succ]
  refine takeU (i := 4) (d := 101) (v := ?_) rfl rfl (by kernel_rfl) (by kernel_rfl) (by kernel_rfl) (by kernel_rfl) (by kernel_rfl) (fun _ _ _ h => h) (Or.inl ⟨by rfl, ?_⟩) hHeld ?_
  rotate_left
  · intro wq hSw; (try dsimp only at hSw); go_simp; all_goals (with_reducible rfl)
  simp only [Act.put, List.setIfInBounds_toArray, List.set_cons_zero, List.set_cons_succ]
  refine takeU (i := 5) (d := 102) (v := ?_) rfl rfl (by kernel_rfl) (by kernel_rfl) (by kernel_rfl) (by kernel_rfl) (by kernel_rfl) (fun _ _ _ h => h) (Or.inl ⟨by rfl, ?_⟩) hHeld ?_
  rotate_left
  · intro wq hSw; (try dsimp only at hSw); go_simp; all_goals (with_reducible rfl)
  simp only [Act.put, List.setIfInBounds_toArray, List.set_cons_zero, List.set_cons_succ]
  refine takeU (i := 6) (d := 103) (v := ?_) rfl rfl (by kernel_rfl) (by kernel_rfl) (by kernel_rfl) (by kernel_rfl) (by kernel_rfl) (fun _ _ _ h => h) (Or.inl ⟨by rfl, ?_⟩) hHeld ?_
  rotate_left
  · intro wq hSw; (try dsimp only at hSw); go_simp; all_goals (with_reducible rfl)
  simp only [Act.put, List.setIfInBounds_toArray, List.set_cons_zero, List.set_cons_succ]
  refine takeU (i := 7) (d := 104) (v := ?_) rfl rfl (by kernel_rfl) (by kernel_rfl) (by kernel_rfl) (by kernel_rfl) (by kernel_rfl) (fun _ _ _ h => h) (Or.inl ⟨by rfl, ?_⟩) hHeld ?_
  rotate_left
  · intro wq hSw; (try dsimp only at hSw); go_simp; all_goals (with_reducible rfl)
  simp only [Act.put, List.setIfInBounds_toArray, List.set_cons_zero, List.set_cons_succ]
  refine wpAnyU_ready (rs := [8]) (by kernel_rfl) (by simp) ?_
  refine AllReadyU.cons rfl (fun K1 hK => ?_) AllReadyU.nil
  go_simp
  go_at_call 47
  refine (HHe.out _ _ (H4.out.same ((Fr.refl _ _).drew))).mono ?_
  rintro e w3 ⟨g, nn', rfl, hph, H5⟩
  have H5 : St W w3 (([BlkT X (amO S K N x pv), SnT S x.s, KnT K (x.k.put b i t) nn', NtT N (x.bag.map pkA) x.sent, RowT 9 1 pv x.s.texts.length (txC x.s.texts)] ++ T) ++ ([BlkT pd (dgO ⟨num, 2, b, 1, 0, en⟩), BlkT pm (mO (mPut b i t))] ++ [BlkT g (dgO ⟨0, 1, 0, 2, b, (x.k.says b i t).enc⟩)])) := by
    rw [← List.append_assoc]
    exact H5
  have HS5 := hid (show ∀ wx, Fr [] w3 wx → wx.cell? ⟨X, 3, none⟩ = some (ptr N) ∧ (wx.cell? ⟨g, 1, none⟩ = some (.int .i64 1) ∧ wx.cell? ⟨g, 2, none⟩ = some (.int .i64 0)) ∧ (wx.cell? ⟨g, 3, none⟩ = some (.int .i64 2) ∧ wx.cell? ⟨g, 4, none⟩ = some (.int .i64 b)) ∧ wx.cell? ⟨g, 5, none⟩ = some (.string (x.k.says b i t).enc) from fun wx hF => by
    have h := H5.same hF
    obtain ⟨d0, d1, d2, d3, d4, d5⟩ := dg_cells (h.blk _ (get_behind _ _ 2))
    exact ⟨cell_blk (i := 3) (h.blk 0 rfl) rfl, ⟨d1, d2⟩, ⟨d3, d4⟩, d5⟩)
  have hgg := lt_of_block (H5.blk _ (get_behind _ _ 2))
  obtain ⟨en2, hen2⟩ : ∃ en2, (x.k.says b i t).enc = en2 := ⟨_, rfl⟩
  have HE2 := hid hen2
  rw [hen2] at HS5 H5
  have HC3 := hid (show ∀ wx, St W wx (([BlkT X (amO S K N x pv), SnT S x.s, KnT K (x.k.put b i t) nn', NtT N (x.bag.map pkA) x.sent, RowT 9 1 pv x.s.texts.length (txC x.s.texts)] ++ T) ++ ([BlkT pd (dgO ⟨num, 2, b, 1, 0, en⟩), BlkT pm (mO (mPut b i t))] ++ [BlkT g (dgO ⟨0, 1, 0, 2, b, en2⟩)])) → wx.cell? ⟨X, 2, none⟩ = some (ptr K) ∧ (wx.cell? ⟨pd, 1, none⟩ = some (.int .i64 2) ∧ wx.cell? ⟨pd, 2, none⟩ = some (.int .i64 b)) ∧ wx.cell? ⟨pd, 5, none⟩ = some (.string en) from fun wx h => by
    obtain ⟨d0, d1, d2, d3, d4, d5⟩ := dg_cells (h.blk _ (get_behind _ _ 0))
    exact ⟨cell_blk (i := 2) (h.blk 0 rfl) rfl, ⟨d1, d2⟩, d5⟩)
  have H5 := hid H5
  clear hen2 HC H4 x1 d3
  have hC3 := hid (HC3.out _ H5.out)
  go_simp
  refine hK.out _ _ (fun _ => hC3.out) (fun _ => ?_)
  clear hK K1
  refine wpAnyU_ready (rs := [9]) (by kernel_rfl) (by simp) ?_
  refine AllReadyU.cons rfl (fun K1 hK => ?_) AllReadyU.nil
  go_simp
  refine hK.out _ _ (fun h => absurd rfl h) (fun _ => ?_)
  clear hK K1 hHeld hC3 HC3
  refine wpAnyU_done (by kernel_rfl) ?_ _
  go_wp2_with fail
  go_loopw [7] (fun iv wr => (iv = .int .i64 0 ∧ Hid (Fr [] w3 wr)) ∨ (iv = .int .i64 1 ∧ Hid (St W wr (amL X S K N (x.comes (.put b i t)) pv nn' ++ T)))) (fun iv _ => 1 - (intOf iv).toNat)
  case atStart => exact .inl ⟨rfl, Fr.refl _ _⟩
  case round =>
    rcases hrel with ⟨rfl, HF⟩ | ⟨rfl, HQ⟩
    · have HSr := hid (fun wx h => HS5.out wx (HF.out.trans h))
      have H5 := hid (H5.out.same HF.out)
      clear hgg HS5 HF
      go_wp2_with fail
      refine wp_region_U (S := fun wx : World => wx.cell? ⟨X, 3, none⟩ = some (ptr N) ∧ (wx.cell? ⟨g, 1, none⟩ = some (.int .i64 1) ∧ wx.cell? ⟨g, 2, none⟩ = some (.int .i64 0)) ∧ (wx.cell? ⟨g, 3, none⟩ = some (.int .i64 2) ∧ wx.cell? ⟨g, 4, none⟩ = some (.int .i64 b)) ∧ wx.cell? ⟨g, 5, none⟩ = some (.string en2)) 19 (by kernel_rfl) (HSr.out _ ((Fr.refl _ _).drew)) (fun hHeld => ?_)
      refine takeU (i := 0) (d := 112) (v := ?_) rfl rfl (by kernel_rfl) (by kernel_rfl) (by kernel_rfl) (by kernel_rfl) (by kernel_rfl) (fun _ _ _ h => h) (Or.inl ⟨by rfl, ?_⟩) hHeld ?_
      rotate_left
      · intro wq hSw; (try dsimp only at hSw); go_simp; all_goals (with_reducible rfl)
      simp only [Act.put, List.setIfInBounds_toArray, List.set_cons_zero, List.set_cons_succ]
      refine takeU (i := 1) (d := 113) (v := ?_) rfl rfl (by kernel_rfl) (by kernel_rfl) (by kernel_rfl) (by kernel_rfl) (by kernel_rfl) (fun _ _ _ h => h) (Or.inl ⟨by rfl, ?_⟩) hHeld ?_
      rotate_left
      · intro wq hSw; (try dsimp only at hSw); go_simp; all_goals (with_reducible rfl)
      simp only [Act.put, List.setIfInBounds_toArray, List.set_cons_zero, List.set_cons_succ]
      refine takeU (i := 2) (d := 114) (v := ?_) rfl rfl (by kernel_rfl) (by kernel_rfl) (by kernel_rfl) (by kernel_rfl) (by kernel_rfl) (fun _ _ _ h => h) (Or.inl ⟨by rfl, ?_⟩) hHeld ?_
      rotate_left
      · intro wq hSw; (try dsimp only at hSw); go_simp; all_goals (with_reducible rfl)
      simp only [Act.put, List.setIfInBounds_toArray, List.set_cons_zero, List.set_cons_succ]
      refine takeU (i := 3) (d := 115) (v := ?_) rfl rfl (by kernel_rfl) (by kernel_rfl) (by kernel_rfl) (by kernel_rfl) (by kernel_rfl) (fun _ _ _ h => h) (Or.inl ⟨by rfl, ?_⟩) hHeld ?_
      rotate_left
      · intro wq hSw; (try dsimp only at hSw); go_simp; all_goals (with_reducible rfl)
      simp only [Act.put, List.setIfInBounds_toArray, List.set_cons_zero, List.set_cons_succ]
      refine takeU (i := 4) (d := 116) (v := ?_) rfl rfl (by kernel_rfl) (by kernel_rfl) (by kernel_rfl) (by kernel_rfl) (by kernel_rfl) (fun _ _ _ h => h) (Or.inl ⟨by rfl, ?_⟩) hHeld ?_
      rotate_left
      · intro wq hSw; (try dsimp only at hSw); go_simp; all_goals (with_reducible rfl)
      simp only [Act.put, List.setIfInBounds_toArray, List.set_cons_zero, List.set_cons_succ]
      refine takeU (i := 5) (d := 117) (v := ?_) rfl rfl (by kernel_rfl) (by kernel_rfl) (by kernel_rfl) (by kernel_rfl) (by kernel_rfl) (fun _ _ _ h => h) (Or.inl ⟨by rfl, ?_⟩) hHeld ?_
      rotate_left
      · intro wq hSw; (try dsimp only at hSw); go_simp; all_goals (with_reducible rfl)
      simp only [Act.put, List.setIfInBounds_toArray, List.set_cons_zero, List.set_cons_succ]
      refine takeU (i := 6) (d := 118) (v := ?_) rfl rfl (by kernel_rfl) (by kernel_rfl) (by kernel_rfl) (by kernel_rfl) (by kernel_rfl) (fun _ _ _ h => h) (Or.inl ⟨by rfl, ?_⟩) hHeld ?_
      rotate_left
      · intro wq hSw; (try dsimp only at hSw); go_simp; all_goals (with_reducible rfl)
      simp only [Act.put, List.setIfInBounds_toArray, List.set_cons_zero, List.set_cons_succ]
      refine takeU (i := 7) (d := 119) (v := ?_) rfl rfl (by kernel_rfl) (by kernel_rfl) (by kernel_rfl) (by kernel_rfl) (by kernel_rfl) (fun _ _ _ h => h) (Or.inl ⟨by rfl, ?_⟩) hHeld ?_
      rotate_left
      · intro wq hSw; (try dsimp only at hSw); go_simp; all_goals (with_reducible rfl)
      simp only [Act.put, List.setIfInBounds_toArray, List.set_cons_zero, List.set_cons_succ]
      refine takeU (i := 8) (d := 120) (v := ?_) rfl rfl (by kernel_rfl) (by kernel_rfl) (by kernel_rfl) (by kernel_rfl) (by kernel_rfl) (fun _ _ _ h => h) (Or.inl ⟨by rfl, ?_⟩) hHeld ?_
      rotate_left
      · intro wq hSw; (try dsimp only at hSw); go_simp; all_goals (with_reducible rfl)
      simp only [Act.put, List.setIfInBounds_toArray, List.set_cons_zero, List.set_cons_succ]
      refine takeU (i := 9) (d := 121) (v := ?_) rfl rfl (by kernel_rfl) (by kernel_rfl) (by kernel_rfl) (by kernel_rfl) (by kernel_rfl) (fun _ _ _ h => h) (Or.inl ⟨by rfl, ?_⟩) hHeld ?_
      rotate_left
      · intro wq hSw; (try dsimp only at hSw); go_simp; all_goals (with_reducible rfl)
      simp only [Act.put, List.setIfInBounds_toArray, List.set_cons_zero, List.set_cons_succ]
      refine takeU (i := 10) (d := 122) (v := ?_) rfl rfl (by kernel_rfl) (by kernel_rfl) (by kernel_rfl) (by kernel_rfl) (by kernel_rfl) (fun _ _ _ h => h) (Or.inl ⟨by rfl, ?_⟩) hHeld ?_
      rotate_left
      · intro wq hSw; (try dsimp only at hSw); go_simp; all_goals (with_reducible rfl)
      simp only [Act.put, List.setIfInBounds_toArray, List.set_cons_zero, List.set_cons_succ]
      refine takeU (i := 11) (d := 123) (v := ?_) rfl rfl (by kernel_rfl) (by kernel_rfl) (by kernel_rfl) (by kernel_rfl) (by kernel_rfl) (fun _ _ _ h => h) (Or.inl ⟨by rfl, ?_⟩) hHeld ?_
      rotate_left
      · intro wq hSw; (try dsimp only at hSw); go_simp; all_goals (with_reducible rfl)
      simp only [Act.put, List.setIfInBounds_toArray, List.set_cons_zero, List.set_cons_succ]
      refine takeU (i := 12) (d := 124) (v := ?_) rfl rfl (by kernel_rfl) (by kernel_rfl) (by kernel_rfl) (by kernel_rfl) (by kernel_rfl) (fun _ _ _ h => h) (Or.inl ⟨by rfl, ?_⟩) hHeld ?_
      rotate_left
      · intro wq hSw; (try dsimp only at hSw); go_simp; all_goals (with_reducible rfl)
      simp only [Act.put, List.setIfInBounds_toArray, List.set_cons_zero, List.set_cons_succ]
      refine takeU (i := 13) (d := 125) (v := ?_) rfl rfl (by kernel_rfl) (by kernel_rfl) (by kernel_rfl) (by kernel_rfl) (by kernel_rfl) (fun _ _ _ h => h) (Or.inl ⟨by rfl, ?_⟩) hHeld ?_
      rotate_left
      · intro wq hSw; (try dsimp only at hSw); go_simp; all_goals (with_reducible rfl)
      simp only [Act.put, List.setIfInBounds_toArray, List.set_cons_zero, List.set_cons_succ]
      refine takeU (i := 14) (d := 126) (v := ?_) rfl rfl (by kernel_rfl) (by kernel_rfl) (by kernel_rfl) (by kernel_rfl) (by kernel_rfl) (fun _ _ _ h => h) (Or.inl ⟨by rfl, ?_⟩) hHeld ?_
      rotate_left
      · intro wq hSw; (try dsimp only at hSw); go_simp; all_goals (with_reducible rfl)
      simp only [Act.put, List.setIfInBounds_toArray, List.set_cons_zero, List.set_cons_succ]
      refine takeU (i := 15) (d := 127) (v := ?_) rfl rfl (by kernel_rfl) (by kernel_rfl) (by kernel_rfl) (by kernel_rfl) (by kernel_rfl) (fun _ _ _ h => h) (Or.inl ⟨by rfl, ?_⟩) hHeld ?_
      rotate_left
      · intro wq hSw; (try dsimp only at hSw); go_simp; all_goals (with_reducible rfl)
      simp only [Act.put, List.setIfInBounds_toArray, List.set_cons_zero, List.set_cons_succ]
      refine takeU (i := 16) (d := 128) (v := ?_) rfl rfl (by kernel_rfl) (by kernel_rfl) (by kernel_rfl) (by kernel_rfl) (by kernel_rfl) (fun _ _ _ h => h) (Or.inl ⟨by rfl, ?_⟩) hHeld ?_
      rotate_left
      · intro wq hSw; (try dsimp only at hSw); go_simp; all_goals (with_reducible rfl)
      simp only [Act.put, List.setIfInBounds_toArray, List.set_cons_zero, List.set_cons_succ]
      refine takeU (i := 17) (d := 129) (v := ?_) rfl rfl (by kernel_rfl) (by kernel_rfl) (by kernel_rfl) (by kernel_rfl) (by kernel_rfl) (fun _ _ _ h => h) (Or.inl ⟨by rfl, ?_⟩) hHeld ?_
      rotate_left
      · intro wq hSw; (try dsimp only at hSw); go_simp; all_goals (with_reducible rfl)
      simp only [Act.put, List.setIfInBounds_toArray, List.set_cons_zero, List.set_cons_succ]
      refine takeU (i := 18) (d := 130) (v := ?_) rfl rfl (by kernel_rfl) (by kernel_rfl) (by kernel_rfl) (by kernel_rfl) (by kernel_rfl) (fun _ _ _ h => h) (Or.inl ⟨by rfl, ?_⟩) hHeld ?_
      rotate_left
      · intro wq hSw; (try dsimp only at hSw); go_simp; all_goals (with_reducible rfl)
      simp only [Act.put, List.setIfInBounds_toArray, List.set_cons_zero, List.set_cons_succ]
      refine wpAnyU_ready (rs := [19]) (by kernel_rfl) (by simp) ?_
      refine AllReadyU.cons rfl (fun K1 hK => ?_) AllReadyU.nil
      go_simp
      go_at_call 21
      refine (st_nsend (H5.out.same ((Fr.refl _ _).drew)) 3 rfl 1 0 2 b en2 (by have := HB.out.1; rw [List.length_map]; omega)).mono ?_
      rintro e w4 ⟨rfl, H6⟩
      have H7 := hid (show St W w4 (amL X S K N (x.comes (.put b i t)) pv nn' ++ T) from by
        have h : St W w4 (([BlkT X (amO S K N x pv), SnT S x.s, KnT K (x.k.put b i t) nn', NtT N (x.bag.map pkA ++ [⟨nextN x.sent, 1, 0, 2, b, en2⟩]) (nextN x.sent), RowT 9 1 pv x.s.texts.length (txC x.s.texts)] ++ T) ++ ([BlkT pd (dgO ⟨num, 2, b, 1, 0, en⟩), BlkT pm (mO (mPut b i t))] ++ [BlkT g (dgO ⟨0, 1, 0, 2, b, en2⟩)])) := H6
        have h := h.drop
        obtain ⟨e1, e2, e3, e4, e5⟩ := HEq.out
        have e6 : (x.comes (.put b i t)).badge = x.badge := by unfold Am.badge; rw [e4]
        dsimp only [amL, amO]
        rw [e1, e2, e3, e5, e6, HE2.out]
        exact h)
      clear H6
      go_simp
      refine hK.out _ _ (fun h => absurd rfl h) (fun _ => ?_)
      clear hK K1 hHeld
      refine wpAnyU_done (by kernel_rfl) ?_ _
      go_wp2_with fail
      refine ⟨.inr ⟨rfl, H7⟩, ?_⟩
      decide
    · go_wp2_with fail
      go_end0
      refine ⟨nn', hid ?_, rfl, HQ.out⟩
      rw [HEq.out.2.1]
      exact hph.out
theorem st_acomes {X S K N nn : Nat} {x : Am} {pv : Value} (H : St W w (amL X S K N x pv nn ++ T)) (hx : x.ok) (hbd : x.badge ≤ 16777216) (hbl : x.bag.length ≤ 536870912) (hph : nn ≤ x.k.phi) (p : Int × Pz) (hp : PzOk x.badge x.s.said x.next x.allOf p.2) :
    Calls Tryz.prog 28 #[ptr X, dgV (pkA p)] w fun e w' => ∃ nn', Hid (nn' ≤ (x.comes p.2).k.phi) ∧ e = .returned (.tuple #[]) ∧ St W w' (amL X S K N (x.comes p.2) pv nn' ++ T) := by
  obtain ⟨num, q⟩ := p
  cases q with
  | put b i t => exact st_acomes_put H hx hbd hbl hph num b i t hp
  | took b c =>
    obtain ⟨h1, h2, h3, h4⟩ := hp
    refine (st_acomes_took H num b c h1 h2 (by omega) h3).mono ?_
    rintro e w' ⟨rfl, h⟩
    refine ⟨nn, hid ?_, rfl, h⟩
    show nn ≤ (x.comes (.took b c)).k.phi
    rw [Am.comes_took]
    split <;> exact hph
  | refused b =>
    obtain ⟨h1, h2⟩ := hp
    refine (st_acomes_ref H num b h1 h2 (by omega)).mono ?_
    rintro e w' ⟨rfl, h⟩
    exact ⟨nn, hid hph, rfl, h⟩
end

end Go.Proofs.YtkiccbjngokpjaaGreat

/-
  the artefacts of top: begins, newStream.
-/
namespace Go.Proofs.YtkiccbjngokpjaaGreat
open Go.RowKit
set_option linter.unusedVariables false
set_option linter.unusedSimpArgs false

section
variable {W : Base} {w : World} {T : List Thing}
abbrev abL (X K N : Nat) (y : Am) (s : Value) (bd : Int) (pv : Value) (nn : Nat) : List Thing := [BlkT X (stO s (.pointer none) (ptr K) N y.s.win y.s.res bd pv (.slice none 0 0)), KnT K y.k nn, NtT N (y.bag.map pkA) y.sent]
set_option maxHeartbeats 3200000 in
set_option maxRecDepth 100000 in
theorem st_abegins {X K N nn : Nat} {y : Am} {s pv : Value} {bd : Nat} (H : St W w (abL X K N y s bd pv nn ++ T)) (hy : y.s = .new y.s.win y.s.res) (h1 : 1 ≤ y.s.win ∧ y.s.win ≤ 8) (h2 : 1 ≤ y.s.res ∧ y.s.res ≤ 16) (hbd : bd + 1 = y.badge) (hbd2 : bd ≤ 1099511627776) :
    Calls Tryz.prog 22 #[ptr X] w fun e w' => ∃ S pv', e = .returned (.tuple #[]) ∧ St W w' (amL X S K N (y.puts ⟨#[]⟩) pv' nn ++ T) := by
  obtain ⟨b1, hb1⟩ : ∃ b1 : Int, ((bd + 1 : Nat) : Int) = b1 := ⟨_, rfl⟩
  have hb := H.blk 0 rfl
  have x6 := cell_blk (i := 6) hb rfl
  have f6 := free_blk (i := 6) hb
  have x7 := cell_blk (i := 7) hb rfl
  have f7 := free_blk (i := 7) hb
  have H2 := H.setBlk 0 rfl 6 (.int .i64 b1)
  have H3 := H2.setBlk 0 rfl 7 (.slice none 0 0)
  have hw : wrap64 ((bd : Int) + 1) = b1 := by rw [IntWalk.wrap64_in _ (by omega), ← hb1]; rfl
  have H3 : St W ((w.setCell ⟨X, 6, none⟩ (.int .i64 b1)).setCell ⟨X, 7, none⟩ (.slice none 0 0)) (abL X K N y s b1 (.slice none 0 0) nn ++ T) := H3
  have HN := hid (fun (wx : World) (h : St W wx (abL X K N y s b1 (.slice none 0 0) nn ++ T)) => st_snew h y.s.win y.s.res h1 h2)
  have HS := hid (show ∀ (wx : World) (L : List Thing), St W wx (abL X K N y s b1 (.slice none 0 0) nn ++ L) → wx.cell? ⟨X, 4, none⟩ = some (.int .i64 y.s.win) ∧ wx.cell? ⟨X, 5, none⟩ = some (.int .i64 y.s.res) from fun wx L h => by
    have b := h.blk 0 rfl
    exact ⟨cell_blk (i := 4) b rfl, cell_blk (i := 5) b rfl⟩)
  have H3 := hid H3
  have HY := hid (And.intro hy (hb1.symm.trans (by rw [hbd])))
  clear H H2 hb h1 h2 hbd hb1 hbd2 hy
  obtain ⟨win, hwin⟩ : ∃ win, y.s.win = win := ⟨_, rfl⟩
  obtain ⟨res, hres⟩ : ∃ res, y.s.res = res := ⟨_, rfl⟩
  have HWR := hid (And.intro hwin hres)
  dsimp only [abL] at H3 HN HS
  rw [hwin, hres] at H3 HN HS
  clear hwin hres
  go_enter Tryz.func22, Tryz.ntmps22
  go_wp2_with fail
  generalize (w.setCell ⟨X, 6, none⟩ _).setCell ⟨X, 7, none⟩ _ = w3 at H3 ⊢
  clear x6 f6 x7 f7 hw
  refine wp_region_U (S := fun wx : World => wx.cell? ⟨X, 4, none⟩ = some (.int .i64 win) ∧ wx.cell? ⟨X, 5, none⟩ = some (.int .i64 res)) 15 (by kernel_rfl) (HS.out _ _ (H3.out.same ((Fr.refl _ _).drew))) (fun hHeld => ?_)
  refine takeU (i := 0) (d := 13) (v := ?_) rfl rfl (by kernel_rfl) (by kernel_rfl) (by kernel_rfl) (by kernel_rfl) (by kernel_rfl) (fun _ _ _ h => h) (Or.inl ⟨by rfl, ?_⟩) hHeld ?_
  rotate_left
  · intro wq hSw; (try dsimp only at hSw); go_simp; all_goals (with_reducible rfl)
  simp only [Act.put, List.setIfInBounds_toArray, List.set_cons_zero, List.set_cons_succ]
  refine takeU (i := 1) (d := 14) (v := ?_) rfl rfl (by kernel_rfl) (by kernel_rfl) (by kernel_rfl) (by kernel_rfl) (by kernel_rfl) (fun _ _ _ h => h) (Or.inl ⟨by rfl, ?_⟩) hHeld ?_
  rotate_left
  · intro wq hSw; (try dsimp only at hSw); go_simp; all_goals (with_reducible rfl)
  simp only [Act.put, List.setIfInBounds_toArray, List.set_cons_zero, List.set_cons_succ]
  refine takeU (i := 2) (d := 15) (v := ?_) rfl rfl (by kernel_rfl) (by kernel_rfl) (by kernel_rfl) (by kernel_rfl) (by kernel_rfl) (fun _ _ _ h => h) (Or.inl ⟨by rfl, ?_⟩) hHeld ?_
  rotate_left
  · intro wq hSw; (try dsimp only at hSw); go_simp; all_goals (with_reducible rfl)
  simp only [Act.put, List.setIfInBounds_toArray, List.set_cons_zero, List.set_cons_succ]
  refine takeU (i := 3) (d := 16) (v := ?_) rfl rfl (by kernel_rfl) (by kernel_rfl) (by kernel_rfl) (by kernel_rfl) (by kernel_rfl) (fun _ _ _ h => h) (Or.inl ⟨by rfl, ?_⟩) hHeld ?_
  rotate_left
  · intro wq hSw; (try dsimp only at hSw); go_simp; all_goals (with_reducible rfl)
  simp only [Act.put, List.setIfInBounds_toArray, List.set_cons_zero, List.set_cons_succ]
  refine takeU (i := 4) (d := 17) (v := ?_) rfl rfl (by kernel_rfl) (by kernel_rfl) (by kernel_rfl) (by kernel_rfl) (by kernel_rfl) (fun _ _ _ h => h) (Or.inl ⟨by rfl, ?_⟩) hHeld ?_
  rotate_left
  · intro wq hSw; (try dsimp only at hSw); go_simp; all_goals (with_reducible rfl)
  simp only [Act.put, List.setIfInBounds_toArray, List.set_cons_zero, List.set_cons_succ]
  refine takeU (i := 5) (d := 18) (v := ?_) rfl rfl (by kernel_rfl) (by kernel_rfl) (by kernel_rfl) (by kernel_rfl) (by kernel_rfl) (fun _ _ _ h => h) (Or.inl ⟨by rfl, ?_⟩) hHeld ?_
  rotate_left
  · intro wq hSw; (try dsimp only at hSw); go_simp; all_goals (with_reducible rfl)
  simp only [Act.put, List.setIfInBounds_toArray, List.set_cons_zero, List.set_cons_succ]
  refine takeU (i := 6) (d := 19) (v := ?_) rfl rfl (by kernel_rfl) (by kernel_rfl) (by kernel_rfl) (by kernel_rfl) (by kernel_rfl) (fun _ _ _ h => h) (Or.inl ⟨by rfl, ?_⟩) hHeld ?_
  rotate_left
  · intro wq hSw; (try dsimp only at hSw); go_simp; all_goals (with_reducible rfl)
  simp only [Act.put, List.setIfInBounds_toArray, List.set_cons_zero, List.set_cons_succ]
  refine takeU (i := 7) (d := 20) (v := ?_) rfl rfl (by kernel_rfl) (by kernel_rfl) (by kernel_rfl) (by kernel_rfl) (by kernel_rfl) (fun _ _ _ h => h) (Or.inl ⟨by rfl, ?_⟩) hHeld ?_
  rotate_left
  · intro wq hSw; (try dsimp only at hSw); go_simp; all_goals (with_reducible rfl)
  simp only [Act.put, List.setIfInBounds_toArray, List.set_cons_zero, List.set_cons_succ]
  refine takeU (i := 8) (d := 21) (v := ?_) rfl rfl (by kernel_rfl) (by kernel_rfl) (by kernel_rfl) (by kernel_rfl) (by kernel_rfl) (fun _ _ _ h => h) (Or.inl ⟨by rfl, ?_⟩) hHeld ?_
  rotate_left
  · intro wq hSw; (try dsimp only at hSw); go_simp; all_goals (with_reducible rfl)
  simp only [Act.put, List.setIfInBounds_toArray, List.set_cons_zero, List.set_cons_succ]
  refine wpAnyU_ready (rs := [9]) (by kernel_rfl) (by simp) ?_
  refine AllReadyU.cons rfl (fun K1 hK => ?_) AllReadyU.nil
  go_simp
  go_at_call 12
  refine (HN.out _ (H3.out.same ((Fr.refl _ _).drew))).mono ?_
  rintro e w4 ⟨S, rfl, H4⟩
  simp only [List.append_assoc] at H4
  go_simp
  refine hK.out _ _ (fun _ => HS.out _ _ H4) (fun hHeld => ?_)
  clear hK K1
  have hHeld := hHeld (by decide)
  refine takeU (i := 10) (d := 12) (v := ?_) rfl rfl (by kernel_rfl) (by kernel_rfl) (by kernel_rfl) (by kernel_rfl) (by kernel_rfl) (fun _ _ _ h => h) (Or.inl ⟨by rfl, ?_⟩) hHeld ?_
  rotate_left
  · intro wq hSw; (try dsimp only at hSw); go_simp; all_goals (with_reducible rfl)
  simp only [Act.put, List.setIfInBounds_toArray, List.set_cons_zero, List.set_cons_succ]
  refine takeU (i := 11) (d := 23) (v := ?_) rfl rfl (by kernel_rfl) (by kernel_rfl) (by kernel_rfl) (by kernel_rfl) (by kernel_rfl) (fun _ _ _ h => h) (Or.inl ⟨by rfl, ?_⟩) hHeld ?_
  rotate_left
  · intro wq hSw; (try dsimp only at hSw); go_simp; all_goals (with_reducible rfl)
  simp only [Act.put, List.setIfInBounds_toArray, List.set_cons_zero, List.set_cons_succ]
  refine takeU (i := 13) (d := 25) (v := ?_) rfl rfl (by kernel_rfl) (by kernel_rfl) (by kernel_rfl) (by kernel_rfl) (by kernel_rfl) (fun _ _ _ h => h) (Or.inl ⟨by rfl, ?_⟩) hHeld ?_
  rotate_left
  · intro wq hSw; (try dsimp only at hSw); go_simp; all_goals (with_reducible rfl)
  simp only [Act.put, List.setIfInBounds_toArray, List.set_cons_zero, List.set_cons_succ]
  refine takeU (i := 14) (d := 26) (v := ?_) rfl rfl (by kernel_rfl) (by kernel_rfl) (by kernel_rfl) (by kernel_rfl) (by kernel_rfl) (fun _ _ _ h => h) (Or.inl ⟨by rfl, ?_⟩) hHeld ?_
  rotate_left
  · intro wq hSw; (try dsimp only at hSw); go_simp; all_goals (with_reducible rfl)
  simp only [Act.put, List.setIfInBounds_toArray, List.set_cons_zero, List.set_cons_succ]
  have b4 := H4.blk 0 rfl
  have f0 := free_blk (i := 0) b4
  have x0 := cell_blk (i := 0) b4 rfl
  have H5 := H4.setBlk 0 rfl 0 (ptr S)
  have H5 : St W (w4.setCell ⟨X, 0, none⟩ (ptr S)) ([BlkT X (stO (ptr S) (.pointer none) (ptr K) N win res b1 (.slice none 0 0) (.slice none 0 0)), KnT K y.k nn, NtT N (y.bag.map pkA) y.sent] ++ (T ++ [SnT S (.new win res)])) := H5
  have h4S := HS.out _ _ H4
  have h5S : (w4.setCell ⟨X, 0, none⟩ (ptr S)).cell? ⟨X, 4, none⟩ = some (.int .i64 win) ∧ (w4.setCell ⟨X, 0, none⟩ (ptr S)).cell? ⟨X, 5, none⟩ = some (.int .i64 res) := by
    have b5 := H5.blk 0 rfl
    exact ⟨cell_blk (i := 4) b5 rfl, cell_blk (i := 5) b5 rfl⟩
  refine wpAnyU_ready (rs := [12, 15]) (by kernel_rfl) (by simp) ?_
  refine AllReadyU.cons rfl (fun K1 hK => ?_) (AllReadyU.cons rfl (fun K1 hK => ?_) AllReadyU.nil)
  · go_simp
    refine hK.out _ _ (fun _ => h4S) (fun _ => ?_)
    clear hK K1 hHeld
    refine wpAnyU_ready (rs := [15]) (by kernel_rfl) (by simp) ?_
    refine AllReadyU.cons rfl (fun K1 hK => ?_) AllReadyU.nil
    go_simp
    refine hK.out _ _ (fun h => absurd rfl h) (fun _ => ?_)
    clear hK K1
    refine wpAnyU_done (by kernel_rfl) ?_ _
    have b5 := H5.blk 0 rfl
    have y0 := cell_blk (i := 0) b5 rfl
    have y1 := cell_blk (i := 1) b5 rfl
    have y2 := cell_blk (i := 2) b5 rfl
    have y3 := cell_blk (i := 3) b5 rfl
    have H6 := hid (show St W (w4.setCell ⟨X, 0, none⟩ (ptr S)) (amL X S K N y (.slice none 0 0) nn ++ T) from by
      have h := H5.nilRow 9 1
      have hp : ([BlkT X (stO (ptr S) (.pointer none) (ptr K) N win res b1 (.slice none 0 0) (.slice none 0 0)), KnT K y.k nn, NtT N (y.bag.map pkA) y.sent] ++ (T ++ [SnT S (.new win res)]) ++ [RowT 9 1 (.slice none 0 0) 0 []]).Perm ([BlkT X (stO (ptr S) (.pointer none) (ptr K) N win res b1 (.slice none 0 0) (.slice none 0 0)), SnT S (.new win res), KnT K y.k nn, NtT N (y.bag.map pkA) y.sent, RowT 9 1 (.slice none 0 0) 0 []] ++ T) := by
        refine List.Perm.cons _ ?_
        show ([KnT K y.k nn, NtT N (y.bag.map pkA) y.sent] ++ (T ++ [SnT S (.new win res)]) ++ [RowT 9 1 (.slice none 0 0) 0 []]).Perm (SnT S (.new win res) :: ([KnT K y.k nn, NtT N (y.bag.map pkA) y.sent] ++ (RowT 9 1 (.slice none 0 0) 0 [] :: T)))
        have e : [KnT K y.k nn, NtT N (y.bag.map pkA) y.sent] ++ (T ++ [SnT S (.new win res)]) ++ [RowT 9 1 (.slice none 0 0) 0 []] = ([KnT K y.k nn, NtT N (y.bag.map pkA) y.sent] ++ T) ++ (SnT S (.new win res) :: [RowT 9 1 (.slice none 0 0) 0 []]) := by simp
        rw [e]
        refine List.perm_middle.trans (List.Perm.cons _ ?_)
        rw [List.append_assoc]
        refine List.Perm.append_left _ ?_
        exact List.perm_append_comm
      have h2 := h.perm hp
      obtain ⟨e1, e2⟩ := HWR.out
      obtain ⟨e3, e4⟩ := HY.out
      have e5 : y.s.texts = [] := by rw [e3]; rfl
      dsimp only [amL, amO]
      rw [e5, e1, e2, ← e4]
      have e6 : y.s = .new win res := by rw [e3, e1, e2]
      rw [e6]
      exact h2)
    generalize w4.setCell ⟨X, 0, none⟩ _ = w5 at H6 y0 y1 y2 y3 ⊢
    have HPu := hid (fun (wx : World) (h : Fr [] w5 wx) => st_aputs (H6.out.same h) (by rw [HY.out.1]; exact Nat.zero_le _) ⟨#[]⟩)
    clear b4 b5 f0 x0 H4 H5 H6
    go_wp2_with fail
    refine (HPu.out _ (Fr.refl _ _)).mono ?_
    rintro e w6 ⟨pv', rfl, H7⟩
    have H7 := hid H7
    go_wp2_with fail
    go_end0
    exact ⟨_, _, rfl, H7.out⟩
  · go_simp
    refine hK.out _ _ (fun h => absurd rfl h) (fun _ => ?_)
    clear hK K1 hHeld
    refine wpAnyU_ready (rs := [12]) (by kernel_rfl) (by simp) ?_
    refine AllReadyU.cons rfl (fun K1 hK => ?_) AllReadyU.nil
    go_simp
    refine hK.out _ _ (fun _ => h5S) (fun _ => ?_)
    clear hK K1
    refine wpAnyU_done (by kernel_rfl) ?_ _
    have b5 := H5.blk 0 rfl
    have y0 := cell_blk (i := 0) b5 rfl
    have y1 := cell_blk (i := 1) b5 rfl
    have y2 := cell_blk (i := 2) b5 rfl
    have y3 := cell_blk (i := 3) b5 rfl
    have H6 := hid (show St W (w4.setCell ⟨X, 0, none⟩ (ptr S)) (amL X S K N y (.slice none 0 0) nn ++ T) from by
      have h := H5.nilRow 9 1
      have hp : ([BlkT X (stO (ptr S) (.pointer none) (ptr K) N win res b1 (.slice none 0 0) (.slice none 0 0)), KnT K y.k nn, NtT N (y.bag.map pkA) y.sent] ++ (T ++ [SnT S (.new win res)]) ++ [RowT 9 1 (.slice none 0 0) 0 []]).Perm ([BlkT X (stO (ptr S) (.pointer none) (ptr K) N win res b1 (.slice none 0 0) (.slice none 0 0)), SnT S (.new win res), KnT K y.k nn, NtT N (y.bag.map pkA) y.sent, RowT 9 1 (.slice none 0 0) 0 []] ++ T) := by
        refine List.Perm.cons _ ?_
        show ([KnT K y.k nn, NtT N (y.bag.map pkA) y.sent] ++ (T ++ [SnT S (.new win res)]) ++ [RowT 9 1 (.slice none 0 0) 0 []]).Perm (SnT S (.new win res) :: ([KnT K y.k nn, NtT N (y.bag.map pkA) y.sent] ++ (RowT 9 1 (.slice none 0 0) 0 [] :: T)))
        have e : [KnT K y.k nn, NtT N (y.bag.map pkA) y.sent] ++ (T ++ [SnT S (.new win res)]) ++ [RowT 9 1 (.slice none 0 0) 0 []] = ([KnT K y.k nn, NtT N (y.bag.map pkA) y.sent] ++ T) ++ (SnT S (.new win res) :: [RowT 9 1 (.slice none 0 0) 0 []]) := by simp
        rw [e]
        refine List.perm_middle.trans (List.Perm.cons _ ?_)
        rw [List.append_assoc]
        refine List.Perm.append_left _ ?_
        exact List.perm_append_comm
      have h2 := h.perm hp
      obtain ⟨e1, e2⟩ := HWR.out
      obtain ⟨e3, e4⟩ := HY.out
      have e5 : y.s.texts = [] := by rw [e3]; rfl
      dsimp only [amL, amO]
      rw [e5, e1, e2, ← e4]
      have e6 : y.s = .new win res := by rw [e3, e1, e2]
      rw [e6]
      exact h2)
    generalize w4.setCell ⟨X, 0, none⟩ _ = w5 at H6 y0 y1 y2 y3 ⊢
    have HPu := hid (fun (wx : World) (h : Fr [] w5 wx) => st_aputs (H6.out.same h) (by rw [HY.out.1]; exact Nat.zero_le _) ⟨#[]⟩)
    clear b4 b5 f0 x0 H4 H5 H6
    go_wp2_with fail
    refine (HPu.out _ (Fr.refl _ _)).mono ?_
    rintro e w6 ⟨pv', rfl, H7⟩
    have H7 := hid H7
    go_wp2_with fail
    go_end0
    exact ⟨_, _, rfl, H7.out⟩

set_option maxHeartbeats 6400000 in
set_option maxRecDepth 100000 in
theorem st_newStream_art (H : St W w []) (win res : Nat) (h1 : 1 ≤ win ∧ win ≤ 8) (h2 : 1 ≤ res ∧ res ≤ 16) :
    Calls Tryz.prog 5 #[.int .i64 win, .int .i64 res, .bool true] w fun e w' => ∃ X S K N pv, e = .returned (.tuple #[ptr X, .bool true]) ∧ St W w' (amL X S K N (.new win res) pv 0) := by
  have HN := hid (st_nnew H)
  have g1 : ¬ (win : Int) < 1 := by omega
  have g2 : ¬ (8 : Int) < win := by omega
  have g3 : ¬ (res : Int) < 1 := by omega
  have g4 : ¬ (16 : Int) < res := by omega
  have h1 := hid h1
  have h2 := hid h2
  clear H
  go_enter Tryz.func5, Tryz.ntmps5
  go_wp2_with fail
  refine HN.out.mono ?_
  rintro e w1 ⟨N, rfl, H1⟩
  have H1 : St W w1 [NtT N [] 0] := H1
  have HK := hid (st_knew H1)
  clear HN H1
  go_wp2_with fail
  refine HK.out.mono ?_
  rintro e w2 ⟨K, rfl, H2⟩
  have H2 := hid (H2.alloc (stO (.pointer none) (.pointer none) (ptr K) N win res 0 (.slice none 0 0) (.slice none 0 0)))
  clear HK
  go_wp2_with fail
  generalize w2.alloc _ = w3 at H2 ⊢
  generalize w2.heap.size = X at H2 ⊢
  have H3 := hid (show St W w3 (abL X K N ⟨.new win res, ⟨none⟩, [], 0, [], []⟩ (.pointer none) ((0 : Nat) : Int) (.slice none 0 0) 0 ++ []) from by
    have h : St W w3 ([] ++ [NtT N [] 0, KnT K ⟨none⟩ 0, BlkT X (stO (.pointer none) (.pointer none) (ptr K) N win res 0 (.slice none 0 0) (.slice none 0 0))]) := H2.out
    exact h.pickEnd [2, 1, 0] (by decide) (by intro q hq; simp at hq ⊢; omega))
  clear H2
  refine (st_abegins H3.out rfl h1.out h2.out rfl (by decide)).mono ?_
  rintro e w4 ⟨S, pv', rfl, H4⟩
  have H4 := hid (show St W w4 (amL X S K N (.new win res) pv' 0) from by
    rw [List.append_nil] at H4
    exact H4)
  clear H3
  go_wp2_with fail
  go_ret2
  exact ⟨_, _, _, _, _, rfl, H4.out⟩
end

end Go.Proofs.YtkiccbjngokpjaaGreat
