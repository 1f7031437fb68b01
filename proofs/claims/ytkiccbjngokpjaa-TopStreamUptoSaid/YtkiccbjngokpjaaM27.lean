/-
  Merged, in build order: Ts8.
-/
import Derived.Test.YtkiccbjngokpjaaM25
import Derived.Test.YtkiccbjngokpjaaM26
/-
  the streams of top: newStream (a log); flowing.
-/
namespace Go.Proofs.Ytkiccbjngokpjaa
open Go.RowKit
set_option linter.unusedVariables false
set_option linter.unusedSimpArgs false

section
variable {W : Base} {w : World}
set_option maxHeartbeats 3200000 in
theorem st_newStream_no (win res : Int) (hb : ¬ (1 ≤ win ∧ win ≤ 8 ∧ 1 ≤ res ∧ res ≤ 16)) (art : Bool) :
    Calls Try.prog 6 #[.int .i64 win, .int .i64 res, .bool art] w fun e w' => e = .returned (.tuple #[.pointer none, .bool false]) ∧ w = w' := by
  by_cases h1 : win < 1
  · clear hb
    go_enter Try.func6, Try.ntmps6
    go_wp2_with fail
    go_ret2
    exact ⟨rfl, rfl⟩
  · by_cases h2 : 8 < win
    · clear hb
      go_enter Try.func6, Try.ntmps6
      go_wp2_with fail
      go_ret2
      exact ⟨rfl, rfl⟩
    · by_cases h3 : res < 1
      · clear hb
        go_enter Try.func6, Try.ntmps6
        go_wp2_with fail
        go_ret2
        exact ⟨rfl, rfl⟩
      · have h4 : 16 < res := by omega
        clear hb
        go_enter Try.func6, Try.ntmps6
        go_wp2_with fail
        go_ret2
        exact ⟨rfl, rfl⟩

set_option maxHeartbeats 6400000 in
set_option maxRecDepth 100000 in
theorem st_newStream_log (H : St W w []) (win res : Nat) (h1 : 1 ≤ win ∧ win ≤ 8) (h2 : 1 ≤ res ∧ res ≤ 16) :
    Calls Try.prog 6 #[.int .i64 win, .int .i64 res, .bool false] w fun e w' => ∃ X S P K N pv sv, e = .returned (.tuple #[ptr X, .bool true]) ∧ St W w' (smL X S P K N (.new win res) pv sv) := by
  have HN := hid (st_nnew H)
  have g1 : ¬ (win : Int) < 1 := by omega
  have g2 : ¬ (8 : Int) < win := by omega
  have g3 : ¬ (res : Int) < 1 := by omega
  have g4 : ¬ (16 : Int) < res := by omega
  have h1 := hid h1
  have h2 := hid h2
  clear H
  go_enter Try.func6, Try.ntmps6
  go_wp2_with fail
  refine HN.out.mono ?_
  rintro e w1 ⟨N, rfl, H1⟩
  have H1 : St W w1 [NtT N [] 0] := H1
  have HK := hid (st_knew H1)
  clear HN H1
  go_wp2_with fail
  refine HK.out.mono ?_
  rintro e w2 ⟨K, rfl, H2⟩
  have H2 := hid (H2.alloc (stO (.pointer none) (.pointer none) (ptr K) N win res 0 (.slice none 0 0) (.slice none 0 0)))
  clear HK
  have HW := hid (st_wnew H2.out win h1.out)
  go_wp2_with fail
  refine HW.out.mono ?_
  rintro e w3 ⟨P, rfl, H3⟩
  clear HW H2
  generalize w2.heap.size = X at H3 ⊢
  have H3 : St W w3 [NtT N [] 0, KnT K ⟨none⟩ 0, BlkT X (stO (.pointer none) (.pointer none) (ptr K) N win res 0 (.slice none 0 0) (.slice none 0 0)), WnT P (.new win)] := H3
  have b3 := H3.blk 2 rfl
  have f1 := free_blk (i := 1) b3
  have x1 := cell_blk (i := 1) b3 rfl
  have H4 := H3.setBlk 2 rfl 1 (ptr P)
  have H4 : St W (w3.setCell ⟨X, 1, none⟩ (ptr P)) [NtT N [] 0, KnT K ⟨none⟩ 0, BlkT X (stO (.pointer none) (ptr P) (ptr K) N win res 0 (.slice none 0 0) (.slice none 0 0)), WnT P (.new win)] := H4
  have b4 := H4.blk 2 rfl
  have f9 := free_blk (i := 9) b4
  have x9 := cell_blk (i := 9) b4 rfl
  have H5 := H4.setBlk 2 rfl 9 (.bool false)
  have H5 : St W ((w3.setCell ⟨X, 1, none⟩ (ptr P)).setCell ⟨X, 9, none⟩ (.bool false)) [NtT N [] 0, KnT K ⟨none⟩ 0, BlkT X (stO (.pointer none) (ptr P) (ptr K) N win res (0 : Nat) (.slice none 0 0) (.slice none 0 0)), WnT P (.new win)] := H5
  have HB := hid (st_begins_log H5 2 rfl h1.out h2.out (by omega))
  clear b3 b4 H3 H4 H5
  go_wp2_with fail
  refine HB.out.mono ?_
  rintro e w4 ⟨S, rfl, H6⟩
  have H7 := hid (show St W w4 (smL X S P K N (.new win res) (.slice none 0 0) (.slice none 0 0)) from by
    have h : St W w4 ([] ++ [NtT N [] 0, KnT K ⟨none⟩ 0, BlkT X (stO (ptr S) (ptr P) (ptr K) N win res ((0 + 1 : Nat) : Int) (.slice none 0 0) (.slice none 0 0)), WnT P (.new win), SnT S (.new win res)]) := H6
    have h2 := h.pickEnd [2, 4, 3, 0] (by decide) (by intro q hq; simp at hq ⊢; omega)
    have h3 := (h2.nilRow 9 1).nilRow 9 1
    exact h3)
  clear HB x1 f1 x9 f9
  go_wp2_with fail
  go_ret2
  exact ⟨_, _, _, _, _, _, _, rfl, H7.out⟩

abbrev bA : ByteArray := ⟨#[97]⟩
theorem hello_ok : (MV.of 1).Ok := by
  have hk : (MV.of 1).kind = 1 := rfl
  refine ⟨by rw [hk]; decide, by rw [hk]; decide, rfl, fun h => absurd (hk.symm.trans h.1) (by decide), fun f hf => ?_⟩
  have hl : fdsOf (MV.of 1).kind = [] := rfl
  rw [hl] at hf
  cases hf
theorem take_a : ((Wn.new 2).take 0 bA).2 = [bA] := by rfl
theorem item_a : ((Sn.new 2 2).put bA).items.length = 1 := by rfl
set_option maxHeartbeats 6400000 in
set_option maxRecDepth 100000 in
theorem st_flowing (w : World) : Calls Try.prog 5 #[] w fun e w' => e = .returned (.bool true) ∧ Fr [] w w' := by
  have HS0 := hid (st_snew (St.refl w) 2 2 (by decide) (by decide))
  go_enter Try.func5, Try.ntmps5
  go_wp2_with fail
  refine HS0.out.mono ?_
  rintro e w1 ⟨S, rfl, H1⟩
  have HW0 := hid (st_wnew H1 2 (by decide))
  clear HS0 H1
  go_wp2_with fail
  refine HW0.out.mono ?_
  rintro e w2 ⟨P, rfl, H2⟩
  have HN0 := hid (st_nnew H2)
  clear HW0 H2
  go_wp2_with fail
  refine HN0.out.mono ?_
  rintro e w3 ⟨N, rfl, H3⟩
  have HK0 := hid (st_knew H3)
  clear HN0 H3
  go_wp2_with fail
  refine HK0.out.mono ?_
  rintro e w4 ⟨K, rfl, H4⟩
  have H4 : St _ w4 [SnT S (.new 2 2), WnT P (.new 2), NtT N [] 0, KnT K ⟨none⟩ 0] := H4
  have HT := hid (st_wtake H4 1 rfl 0 bA (by rfl) (by decide) (by decide))
  clear HK0 H4
  go_wp2_with fail
  refine HT.out.mono ?_
  rintro e w5 ⟨v, z, rfl, hz, H5⟩
  rw [take_a] at H5 hz
  obtain rfl : z = 0 := hz (by simp)
  obtain ⟨la, lc, rfl, _, _⟩ := row_slice (H5.row 4 rfl)
  have HP := hid (st_kput_take (H5.take 4) 3 rfl 1 0 ⟨#[]⟩ (by decide) (by decide) (by rfl) (by decide) (fun _ => rfl) (by decide) (by decide) (by decide))
  clear HT hz
  go_wp2_with fail
  refine HP.out.mono ?_
  rintro e w6 ⟨rfl, H6⟩
  have H6 : St _ w6 [SnT S (.new 2 2), WnT P ((Wn.new 2).take 0 bA).1, NtT N [] 0, KnT K ((⟨none⟩ : Kn).put 1 0 ⟨#[]⟩) 1] := H6
  have HE := hid (st_wencode H6 (MV.of 1) hello_ok)
  clear HP H5
  dsimp only [MV.of, MV.f] at HE
  go_wp2_with fail
  refine HE.out.mono ?_
  rintro e w7 ⟨rfl, H7⟩
  have HPt := hid (st_sput H7 0 rfl bA (by rfl))
  clear HE H6 H7
  generalize MV.enc _ = en
  go_wp2_with fail
  refine HPt.out.mono ?_
  rintro e w8 ⟨rfl, H8⟩
  have H8 : St _ w8 [SnT S ((Sn.new 2 2).put bA), WnT P ((Wn.new 2).take 0 bA).1, NtT N [] 0, KnT K ((⟨none⟩ : Kn).put 1 0 ⟨#[]⟩) 1] := H8
  have HD := hid (st_sdue H8 0 rfl (by decide) (by decide) (by decide))
  clear HPt H8
  go_wp2_with fail
  refine HD.out.mono ?_
  rintro e w9 ⟨v9, rfl, H9⟩
  rw [item_a] at H9
  have H9 : St _ w9 ([SnT S ((Sn.new 2 2).put bA).due, WnT P ((Wn.new 2).take 0 bA).1, NtT N [] 0, KnT K ((⟨none⟩ : Kn).put 1 0 ⟨#[]⟩) 1] ++ [RowT 141 2 v9 1 (iL.cells ((Sn.new 2 2).put bA).items)]) := H9
  obtain ⟨da, dc, rfl, _, _⟩ := row_slice (H9.row 4 rfl)
  have HSd := hid (st_nsend H9 2 rfl 0 0 0 0 en (by decide))
  clear HD H9
  go_wp2_with fail
  refine HSd.out.mono ?_
  rintro e w10 ⟨rfl, H10⟩
  have hFr := hid H10.fr
  have e1 : nextN 0 = 1 := by rfl
  rw [e1]
  clear HSd H10
  go_wp2_with fail
  go_ret
  exact ⟨rfl, hFr.out⟩
end

end Go.Proofs.Ytkiccbjngokpjaa
