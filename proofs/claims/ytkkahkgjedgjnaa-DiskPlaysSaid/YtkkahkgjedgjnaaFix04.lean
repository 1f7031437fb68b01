/-
  The laws' helper 'fixed' of layer 4.
-/
import Derived.Test.YtkkahkgjedgjnaaMade
namespace Go.Proofs.Ytkkahkgjedgjnaa
open Go.RowKit
set_option linter.unusedVariables false
set_option linter.unusedSimpArgs false

def zero127 : ByteArray := ⟨Array.replicate 127 0⟩
theorem zero127_size : zero127.size = 127 := by show (Array.replicate 127 (0 : UInt8)).size = 127; rw [Array.size_replicate]
theorem zero127_at (j : Nat) : sget zero127 j = 0 := by
  show (((Array.replicate 127 (0 : UInt8)).toList.getD j 0).toNat : Int) = 0
  rw [zero_gen]; rfl
theorem info_u8 : (Try.prog.info? 5).map (fun i => (i.zero, i.size, i.bytes)) = some (some (.int .u8 0), 1, 1) := by kernel_rfl
theorem made_u8 (N q : Nat) (hq : q < N) : (madeCells (Value.int .u8 0).cells N)[q]? = some (.int .u8 0) := by
  unfold madeCells
  simp only [Array.getElem?_map]
  rw [Array.getElem?_range, if_pos hq]
  simp [Value.cells, Nat.mod_one]

set_option maxHeartbeats 1600000 in
set_option maxRecDepth 100000 in
theorem fixed04 (w : World) : Calls Try.prog 28 #[] w fun e w' => e = .returned (.bool true) ∧ Fr [] w w' := by
  obtain ⟨i0, hi, hz0, hz1, hz2⟩ := info_parts info_u8
  have HI := hid (And.intro hi (And.intro hz0 (And.intro hz1 hz2)))
  clear hi hz0 hz1 hz2
  go_enter Try.func28, Try.ntmps28
  go_wp2_with fail
  refine (disk_new_ok w 3 (by omega) (by omega)).mono ?_
  rintro e w1 ⟨D, F, rfl, hF, hDk, hFs⟩
  have HD := hid (And.intro hDk (And.intro hF hFs))
  clear hDk hF hFs
  go_wp2_with fail
  refine (disk_size w1 F D _ HD.out.1).mono ?_
  rintro e w2 ⟨rfl, rfl⟩
  have hl3 : (DS.new 3).sec.length = 3 := by simp [DS.new]
  rw [hl3]
  go_wp2_with (at_make; refine wpList_make_full _ rfl (.const (.int .i64 127)) (.const (.int .i64 127)) 89 rfl 0 5 i0 (.int .u8 0) 1 Try.underlying89 HI.out.1 HI.out.2.1 HI.out.2.2.1 .i64 .i64 127 127 127 rfl rfl rfl rfl ?qa ?qb ?qc ?_)
  case qa => rw [HI.out.2.2.2]; omega
  case qb => decide
  case qc => omega
  intro w2 hown hgrow
  have hF2 : Fr [] w1 w2 := (Fr.of_grown hgrow).mono (by simp)
  have hcell : ∀ j, j < 127 → w2.cell? ⟨w1.heap.size, 0 + j, none⟩ = some (.int .u8 (sget zero127 j)) := by
    intro j hj
    rw [Nat.zero_add, hown.cellAt j (by omega), zero127_at, Array.getElem?_toList]
    exact made_u8 _ _ (by omega)
  have HZ := hid (And.intro hF2 hcell)
  have hs127 := zero127_size
  clear hF2 hcell hown hgrow hl3
  go_wp2_with (refine wpList_text rfl 89 9 (.tmp 23) rfl 5 Try.underlying89 Try.underlying5 Try.underlying9 w1.heap.size 0 127 127 zero127 rfl zero127_size HZ.out.2 ?_)
  generalize hst : zero127 ++ ({ data := #[97] } : ByteArray) = st
  have hsz : st.size = 128 := by rw [← hst, ByteArray.size_append, zero127_size]; rfl
  have hw3 := new_wf (n := 3) (by omega) (by omega)
  have hwr : (DS.new 3).write 1 st = (0, { DS.new 3 with armed := 0, sec := (DS.new 3).sec.set 1 st, raw := [(1, st)] }) := by
    unfold DS.write
    rw [if_neg (by simp [DS.new]), if_neg (by simp [DS.new]), if_neg (by omega), if_neg (by simp [DS.new])]
    rfl
  have hwf := write_wf hw3 1 st
  have hWx := disk_write w2 F D (DS.new 3) 1 st (HD.out.1.keep HZ.out.1 (by simp)) hw3 (by simp [DS.new])
  rw [hwr] at hWx hwf
  have HW := hid (And.intro hWx hwf)
  clear hst hsz hwr hWx hwf hw3 hs127
  refine HW.out.1.mono ?_
  rintro e w3 ⟨rfl, hF3, F3, hD3, hb3⟩
  have HY := hid (And.intro hF3 (And.intro hD3 hb3))
  clear hF3 hD3 hb3
  go_wp2_with fail
  have hr1 := disk_read_yes w3 F3 D _ 1 HY.out.2.1 HW.out.2 rfl (by simp [DS.new])
  rw [show sAt (({ DS.new 3 with armed := 0, sec := (DS.new 3).sec.set 1 st, raw := [(1, st)] } : DS).sec) 1 = st from by simp [DS.new, sAt]] at hr1
  refine hr1.mono ?_
  clear hr1
  rintro e w4 ⟨rfl, rfl⟩
  go_wp2_with fail
  refine (disk_read_no w3 F3 D _ 3 HY.out.2.1 40 (.inr ⟨rfl, .inr (by simp [DS.new]), rfl⟩)).mono ?_
  rintro e w4 ⟨rfl, rfl⟩
  go_wp2_with fail
  go_ret
  refine ⟨rfl, ((HD.out.2.1.trans HZ.out.1).step HY.out.1 (fun x hx => .inr (HD.out.2.2 x hx)))⟩

end Go.Proofs.Ytkkahkgjedgjnaa
