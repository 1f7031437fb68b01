/-
  Merged, in build order: V0.
-/
import Derived.Test.YthghnlgojmedgaaGreatM23
/-
  The document's log: number, value, Sector, Fits.
-/
namespace Go.Proofs.YthghnlgojmedgaaGreat
open Go.RowKit
set_option linter.unusedVariables false
set_option linter.unusedSimpArgs false

structure HrInv (w wr : World) (n k i : Nat) (cur : Array Value) : Prop where
  hb : wr.heap[w.heap.size]? = some (.cells cur 5 (0, 0))
  sz : cur.size = k
  at_ : ∀ j, j < i → cur[j]? = some (.int .u8 (hB n k j).toNat)
  fr : Fr [] w wr

set_option maxRecDepth 100000 in
theorem ref_number (w : World) (n k : Nat) (hn : n ≤ 9223372036854775807) (hk : k ≤ 8) :
    Calls Tryz.prog 49 #[.int .i64 n, .int .i64 k] w fun e w' => e = .returned (.string ⟨(hiL n k).toArray⟩) ∧ Fr [] w w' := by
  obtain ⟨i0, hi, hz0, hz1, hz2⟩ := info_parts info_u8
  have HI := hid (And.intro hi (And.intro hz0 (And.intro hz1 hz2)))
  clear hi hz0 hz1 hz2
  go_enter Tryz.func49, Tryz.ntmps49
  go_wp2_with (at_make; refine wpList_make_full _ rfl (.tmp 7) (.tmp 7) 71 rfl 0 5 i0 (.int .u8 0) 1 Tryz.underlying71 HI.out.1 HI.out.2.1 HI.out.2.2.1 .i64 .i64 k k k rfl rfl rfl rfl ?qa ?qb ?qc ?_)
  case qa => rw [HI.out.2.2.2]; omega
  case qb => unfold maxLen; omega
  case qc => omega
  intro w2 hown hgrow
  have hF2 : Fr [] w w2 := (Fr.of_grown hgrow).mono (by simp)
  obtain ⟨cur0, hb0, hs0, hz0⟩ := made_blk hown
  have HZ := hid (And.intro hF2 (And.intro hb0 hs0))
  clear hF2 hown hgrow hb0 hs0 hz0
  go_wp2_with fail
  go_loopw [6] (fun iv wr => ∃ (i : Nat) (cur : Array Value), i ≤ k ∧ iv = .int .i64 i ∧ HrInv w wr n k i cur) (fun iv _ => k - (intOf iv).toNat)
  case atStart => exact ⟨0, cur0, Nat.zero_le _, rfl, HZ.out.2.1, HZ.out.2.2, fun j h1 => by omega, HZ.out.1⟩
  case round =>
    obtain ⟨i, cur, hle, rfl, h⟩ := hrel
    by_cases hlt : i < k
    · obtain ⟨v, hv⟩ : ∃ v, cur[i]? = some v := ⟨_, Array.getElem?_eq_getElem (by rw [h.sz]; omega)⟩
      have c1 := cell_blk h.hb hv
      have f1 := free_blk (i := i) h.hb
      obtain ⟨q, hq⟩ : ∃ q, k - 1 - i = q := ⟨_, rfl⟩
      have e1 : (k : Int) - 1 - i = (q : Int) := by omega
      have e2 : IntKind.i64.wrap ((k : Int) - 1) = (k : Int) - 1 := IntWalk.i64_in _ (by omega)
      have e3 : IntKind.i64.wrap ((k : Int) - 1 - i) = (q : Int) := by rw [e1]; exact IntWalk.i64_in _ (by omega)
      have HQ := hid hq
      have H := hid h
      clear h hv HZ hq
      go_wp2_with fail
      have hbit : ((n : Int) / 2 ^ (8 * q) % 256) = ((hB n k i).toNat : Int) := by
        rw [hB_nat hlt, HQ.out, pow256]
        push_cast; rfl
      have HB := hid hbit
      clear hbit
      go_roundw
      case rel =>
        have h := H.out
        rw [HB.out]
        refine ⟨i + 1, _, by omega, by go_num, blk_setCell_at _ h.hb, by simpa using h.sz, fun j h1 => ?_, h.fr.setCell (.inr (Nat.le_refl _)) _⟩
        rw [Array.getElem?_setIfInBounds]
        by_cases hj : i = j
        · subst hj; rw [if_pos rfl, if_pos (by rw [h.sz]; omega)]
        · rw [if_neg hj]; exact h.at_ j (by omega)
      case measure => simp [intOf]; omega
    · obtain rfl : i = k := by omega
      have hcur := bytes_of (cur := cur) (l := hiL n i) (by rw [h.sz, hiL_len]) (fun j hj => h.at_ j (by rw [hiL_len] at hj; exact hj))
      have hcells : ∀ j v, (Lib.byteCells (hiL n i))[j]? = some v → wr.cell? ⟨w.heap.size, 0 + j, none⟩ = some v := fun j v hj => by
        rw [Nat.zero_add]
        refine cell_blk h.hb ?_
        rw [← hcur, Array.getElem?_toList] at hj
        exact hj
      have HC := hid hcells
      have HF := hid h.fr
      clear h hcur hcells HZ
      go_wp2_with (refine wpList_text' rfl 71 9 (.tmp 25) rfl 5 Tryz.underlying71 Tryz.underlying5 Tryz.underlying9 w.heap.size 0 i i (hiL n i) (hiL_len _ _) rfl HC.out ?_)
      go_wp2_with fail
      go_ret
      exact ⟨rfl, HF.out⟩

theorem zconv {w : World} {g n : Nat} (h : w.ownsRow 0 5 1 (.slice (some ⟨g, 0, none⟩) n n) n (madeCells #[Value.int .u8 0] n).toList) :
    (convert 71 9 (.slice (some ⟨g, 0, none⟩) n n)).run Tryz.prog w = .ok (.string (zeroS n)) w := by
  obtain ⟨cur, hb, hs, hz⟩ := made_blk h
  have hl : (zeroL n).length = n := List.length_replicate
  have hcur := bytes_of (cur := cur) (l := zeroL n) (by rw [hs, hl]) (fun j hj => by
    rw [hl] at hj
    rw [hz j hj]
    congr 2
    unfold zeroL
    rw [List.getD_eq_getElem?_getD, List.getElem?_replicate, if_pos hj]; rfl)
  have h2 := run_text' (P := Tryz.prog) w 71 9 5 g 0 n (zeroL n) Tryz.underlying71 Tryz.underlying5 Tryz.underlying9 (fun j v hv => by
    rw [Nat.zero_add]
    refine cell_blk hb ?_
    rw [← hcur, Array.getElem?_toList] at hv
    exact hv)
  rw [hl] at h2
  exact h2

theorem mkz (w : World) (z : Int) (q : Nat) (hz : z = (q : Int)) (hq : q ≤ 20000) : ∃ w' g, (Instr.makeSlice 71 (.int .i64 z) (.int .i64 z)).run Tryz.prog w = .ok (.slice (some ⟨g, 0, none⟩) q q) w' ∧ Fr [] w w' ∧
    (convert 71 9 (.slice (some ⟨g, 0, none⟩) q q)).run Tryz.prog w' = .ok (.string (zeroS q)) w' := by
  obtain ⟨i0, hi0, hz0, hz1, hz2⟩ := info_parts info_u8
  obtain ⟨w', hrun, r1, r2⟩ := run_make_full (P := Tryz.prog) w 0 71 5 i0 (.int .u8 0) 1 Tryz.underlying71 hi0 hz0 hz1 .i64 .i64 q (by rw [hz2]; omega) (by unfold maxLen; omega) (Nat.zero_le _)
  subst hz
  refine ⟨w', w.heap.size, hrun, (Fr.of_grown r2).mono (by simp), zconv ?_⟩
  simpa [Value.cells] using r1

set_option maxHeartbeats 1600000 in
set_option maxRecDepth 100000 in
theorem ref_sector (w : World) (h : WH) (h1 : h.number ≤ 9223372036854775807) (h2 : h.half ≤ 255) (h3 : h.snap ≤ 9223372036854775807) (h4 : h.log ≤ 9223372036854775807) :
    Calls Tryz.prog 30 #[hV h] w fun e w' => e = .returned (.string (secB h)) ∧ Fr [] w w' := by
  obtain ⟨n, f, s, l⟩ := h
  dsimp only at h1 h2 h3 h4
  have HA : Hid (∀ (w : World) (n k : Nat), n ≤ 9223372036854775807 → k ≤ 8 → Calls Tryz.prog 49 #[.int .i64 n, .int .i64 k] w fun e w' => e = .returned (.string (hiS n k)) ∧ Fr [] w w') := hid (fun w n k hn hk => ref_number w n k hn hk)
  unfold hV
  go_enter Tryz.func30, Tryz.ntmps30
  go_wp2_with fail
  refine (HA.out _ n 8 h1 (by decide)).mono ?_
  rintro e w1 ⟨rfl, hF⟩
  have hb := (blk_alloc_at w (.cells #[.int .i64 n, .int .i64 f, .int .i64 s, .int .i64 l] 68) _ rfl)
  have hb1 := hF.keep hb (by simp)
  have hK : ∀ wx : World, wx.heap[w.heap.size]? = some (.cells #[.int .i64 n, .int .i64 f, .int .i64 s, .int .i64 l] 68 (0, 0)) → Fr [] w wx → (wx.cell? ⟨w.heap.size, 1, none⟩ = some (.int .i64 f) ∧ wx.cell? ⟨w.heap.size, 2, none⟩ = some (.int .i64 s) ∧ wx.cell? ⟨w.heap.size, 3, none⟩ = some (.int .i64 l) ∧ Fr [] w wx) := fun wx hx hf => ⟨cell_blk hx rfl, cell_blk hx rfl, cell_blk hx rfl, hf⟩
  have HFF := hid (fun (wx wy : World) (hx : (wx.cell? ⟨w.heap.size, 1, none⟩ = some (.int .i64 f) ∧ wx.cell? ⟨w.heap.size, 2, none⟩ = some (.int .i64 s) ∧ wx.cell? ⟨w.heap.size, 3, none⟩ = some (.int .i64 l) ∧ Fr [] w wx)) (hf : Fr [] wx wy) => (show wy.cell? ⟨w.heap.size, 1, none⟩ = some (.int .i64 f) ∧ wy.cell? ⟨w.heap.size, 2, none⟩ = some (.int .i64 s) ∧ wy.cell? ⟨w.heap.size, 3, none⟩ = some (.int .i64 l) ∧ Fr [] w wy from ⟨hf.cell0 hx.1, hf.cell0 hx.2.1, hf.cell0 hx.2.2.1, hx.2.2.2.trans hf⟩))
  have HS0 := hid (hK w1 hb1 (((Fr.refl [] w).alloc _).trans hF))
  clear hb hb1 hF hK
  have hcv := conv1 f
  have z1 := hiS_size n 8
  have z2 := oneS_size f
  have z3 := hiS_size s 4
  have z4 := hiS_size l 4
  have a1 : ¬ 9223372036854775807 < (hiS n 8).size + (oneS f).size := by omega
  have a2 : ¬ 9223372036854775807 < (hiS n 8).size + (oneS f).size + (hiS s 4).size := by omega
  have a3 : ¬ 9223372036854775807 < (hiS n 8).size + (oneS f).size + (hiS s 4).size + (hiS l 4).size := by omega
  clear z1 z2 z3 z4
  go_wp2_with fail
  go_region_held (fun wx : World => (wx.cell? ⟨w.heap.size, 1, none⟩ = some (.int .i64 f) ∧ wx.cell? ⟨w.heap.size, 2, none⟩ = some (.int .i64 s) ∧ wx.cell? ⟨w.heap.size, 3, none⟩ = some (.int .i64 l) ∧ Fr [] w wx)) ((first | assumption | exact HFF.out _ _ HS0.out (Fr.refl _ _).drew | exact HFF.out _ _ HS0.out ((Fr.refl _ _).alloc _).drew | exact HFF.out _ _ hNow ((Fr.refl _ _).alloc _))) (first | (go_at_call 49; refine (HA.out _ _ 4 (by assumption) (by decide)).mono ?_; rintro e wn ⟨rfl, hFn⟩; have hNow := HFF.out _ _ (by assumption) hFn; (first | have hq := hFn.cell0 (cell_blk (i := 0) (v := .int .u8 (IntKind.u8.wrap (f : Int))) (blk_drew (blk_alloc_at w1 _ _ rfl)) rfl) | have hq := hFn.cell0 (cell_blk (i := 0) (v := .int .u8 (IntKind.u8.wrap (f : Int))) (blk_alloc_at _ _ _ rfl) rfl) | have hq := hFn.cell0 hq | skip)))
  all_goals
    have hfin := hid (HFF.out _ _ (by assumption) (Fr.refl _ _)).2.2.2
    clear a1 a2 a3 hcv
    have z1 := hiS_size n 8
    have z2 := oneS_size f
    have z3 := hiS_size s 4
    have z4 := hiS_size l 4
    have z5 := zeroS_size 103
    generalize hq : hiS n 8 ++ oneS f ++ hiS s 4 ++ hiS l 4 = t at *
    have zt : t.size = 17 := by rw [← hq, ByteArray.size_append, ByteArray.size_append, ByteArray.size_append, z1, z2, z3, z4]
    have e1 : IntKind.i64.wrap (120 - (t.size : Int)) = 103 := by rw [zt]; rfl
    have e1' : (120 - (t.size : Int)) = 103 := by rw [zt]; rfl
    have e2 : ¬ 9223372036854775807 < t.size + (zeroS 103).size := by omega
    have e3 : ¬ 9223372036854775807 < t.size + (zeroS 103).size + (hiS n 8).size := by omega
    have HQ := hid hq
    clear hq zt z1 z2 z3 z4 z5
    go_wp2_with fail
    obtain ⟨wm, g, hmk, hFm, hcv2⟩ := mkz _ 103 103 rfl (by decide)
    rw [hmk]
    simp only [Result.andThen]
    rw [Oper.upon_value]
    have HF2 := hid (show Fr [] w wm by have h := hfin.out; (try rw [IntWalk.u8_in (f : Int) (by omega)] at h); exact h.trans hFm)
    clear hmk hFm
    go_wp2_with fail
    go_ret
    refine ⟨ret_str ?_, HF2.out⟩
    rw [← HQ.out]
    exact sector_eq n f s l


/-- What value tells: nothing of numbers above 2^62. -/
def valI (s : ByteArray) : Int := if 18014398509481983 < ofL ((bl s).take (s.size - 1)) then -1 else (ofL (bl s) : Nat)
theorem ofL_take_le (l : List UInt8) (j k : Nat) (h : j ≤ k) : ofL (l.take j) ≤ ofL (l.take k) := by
  induction k with
  | zero => have : j = 0 := by omega
            subst this; exact Nat.le_refl _
  | succ k ih =>
    by_cases hj : j = k + 1
    · subst hj; exact Nat.le_refl _
    · have h1 := ih (by omega)
      by_cases hk : k < l.length
      · rw [ofL_take l hk]; omega
      · rw [List.take_of_length_le (by omega : l.length ≤ k + 1)]
        rw [List.take_of_length_le (by omega : l.length ≤ k)] at h1
        exact h1
theorem valI_nat {s : ByteArray} (h : ofL (bl s) ≤ 18014398509481983) : valI s = (ofL (bl s) : Nat) := by
  unfold valI
  have h1 := ofL_take_le (bl s) (s.size - 1) s.size (by omega)
  rw [show (bl s).take s.size = bl s from List.take_length] at h1
  rw [if_neg (by omega)]
theorem valI_neg {s : ByteArray} : valI s = -1 ∨ valI s = (ofL (bl s) : Nat) := by
  unfold valI; split
  · exact .inl rfl
  · exact .inr rfl
set_option maxRecDepth 100000 in
theorem ref_value (w : World) (s : ByteArray) (hs : s.size ≤ 8) :
    Calls Tryz.prog 68 #[.string s] w fun e w' => e = .returned (.int .i64 (valI s)) ∧ w = w' := by
  go_enter Tryz.func68, Tryz.ntmps68
  go_wp2_with fail
  go_loop [3, 4] (fun nv iv => ∃ k : Nat, k ≤ s.size ∧ iv = .int .i64 k ∧ nv = .int .i64 (ofL ((bl s).take k) : Nat) ∧ ofL ((bl s).take k) ≤ 4611686018427387903 ∧ ofL ((bl s).take (k - 1)) ≤ 18014398509481983) (fun _ iv => s.size - (intOf iv).toNat)
  case atStart => exact ⟨0, Nat.zero_le _, rfl, rfl, by show (0 : Nat) ≤ _; decide, by show (0 : Nat) ≤ _; decide⟩
  case round =>
    obtain ⟨k, hk, rfl, rfl, hN, hM⟩ := hrel
    by_cases hlt : k < s.size
    · have h1 := ofL_take (bl s) (k := k) hlt
      have h2 : ((bl s).getD k 0).toNat = s[k].toNat := by
        rw [List.getD_eq_getElem?_getD, List.getElem?_eq_getElem (show k < (bl s).length from hlt)]; rfl
      have h3 : s[k].toNat < 256 := UInt8.toNat_lt _
      rw [h2] at h1
      by_cases hbig : 18014398509481983 < ofL ((bl s).take k)
      · have hle := ofL_take_le (bl s) k (s.size - 1) (by omega)
        have HR := hid (show valI s = -1 by unfold valI; rw [if_pos (by omega)])
        obtain ⟨N, hNe⟩ : ∃ N, ofL ((bl s).take k) = N := ⟨_, rfl⟩
        rw [hNe] at hbig ⊢
        have hbI : (18014398509481983 : Int) < (N : Int) := by omega
        clear h1 h2 h3 hNe hbig hle hN hM
        go_wp2_with fail
        go_ret
        exact ⟨by rw [HR.out]; rfl, rfl⟩
      · obtain ⟨N, hNe⟩ : ∃ N, ofL ((bl s).take k) = N := ⟨_, rfl⟩
        have HM2 := hid (show ofL ((bl s).take (k + 1 - 1)) ≤ 18014398509481983 by rw [Nat.add_sub_cancel]; omega)
        rw [hNe] at h1 hN hbig ⊢
        have hbI : ¬ (18014398509481983 : Int) < (N : Int) := by omega
        have e1 : IntKind.i64.wrap (256 * (N : Int)) = 256 * (N : Int) := IntWalk.i64_in _ (by omega)
        obtain ⟨c, hc⟩ : ∃ c, s[k].toNat = c := ⟨_, rfl⟩
        rw [hc] at h1 h3
        have e2 : IntKind.i64.wrap (c : Int) = (c : Int) := IntWalk.i64_in _ (by omega)
        have e3 : IntKind.i64.wrap (256 * (N : Int) + c) = 256 * (N : Int) + c := IntWalk.i64_in _ (by omega)
        have H1 := hid (And.intro h1 (And.intro h3 (show N ≤ 18014398509481983 by omega)))
        clear h1 h2 h3 hNe hbig hN hM
        go_wp2_with fail
        go_round
        case rel =>
          have h1 := H1.out.1
          refine ⟨k + 1, by omega, by go_num, ?_, by rw [h1]; have := H1.out.2; omega, HM2.out⟩
          rw [h1]
          first | (rw [e3]; congr 1; push_cast; omega) | (congr 1; push_cast; omega)
        case measure => simp [intOf]; omega
    · obtain rfl : k = s.size := by omega
      have HN := hid hM
      clear hN hM
      go_wp2_with fail
      go_ret
      have h1 : (bl s).take s.size = bl s := List.take_length
      refine ⟨?_, rfl⟩
      unfold valI
      rw [if_neg (by have := HN.out; omega), h1]
      rfl

theorem ref_fits (w : World) (n : Nat) (hn : n ≤ 9223372036854775807) :
    Calls Tryz.prog 27 #[.int .i64 n] w fun e w' => e = .returned (.int .i64 (roomN n / 128 : Nat)) ∧ w = w' := by
  unfold roomN
  by_cases h1 : n < 4
  · rw [if_pos (.inl h1)]
    have b1 : (n : Int) < 4 := by omega
    clear h1 hn
    go_enter Tryz.func27, Tryz.ntmps27
    go_wp2_with fail
    go_ret
    exact ⟨rfl, rfl⟩
  have b1 : ¬ (n : Int) < 4 := by omega
  by_cases h3 : 1026 < n
  · rw [if_pos (.inr (.inr h3))]
    have b2 : (1026 : Int) < n := by omega
    clear h1 h3 hn
    go_enter Tryz.func27, Tryz.ntmps27
    go_wp2_with fail
    go_ret
    exact ⟨rfl, rfl⟩
  have b2 : ¬ (1026 : Int) < n := by omega
  by_cases h2 : n % 2 = 1
  · rw [if_pos (.inr (.inl h2))]
    have e1 : ((n : Int).tmod 2 == 1) = true := by rw [beq_iff_eq, Int.tmod_eq_emod_of_nonneg (by omega)]; omega
    have e2 : ((n : Int) % 2 == 1) = true := by rw [beq_iff_eq]; omega
    clear h1 h2 h3 hn
    go_enter Tryz.func27, Tryz.ntmps27
    go_wp2_with fail
    go_ret
    exact ⟨rfl, rfl⟩
  rw [if_neg (by omega)]
  have e1 : ((n : Int).tmod 2 == 1) = false := by rw [beq_eq_false_iff_ne, Int.tmod_eq_emod_of_nonneg (by omega)]; omega
  have e2 : ((n : Int) % 2 == 1) = false := by rw [beq_eq_false_iff_ne]; omega
  have e4 : (n : Int) / 2 - 1 = ((n / 2 - 1 : Nat) : Int) := by omega
  have E4 := hid e4
  clear h1 h2 h3 e4
  go_enter Tryz.func27, Tryz.ntmps27
  go_wp2_with fail
  go_ret
  exact ⟨ret_int' (by exact E4.out), rfl⟩
end Go.Proofs.YthghnlgojmedgaaGreat
