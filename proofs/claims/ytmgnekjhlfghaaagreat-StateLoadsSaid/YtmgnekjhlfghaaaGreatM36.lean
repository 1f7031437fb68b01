/-
  Merged, in build order: TM TN.
-/
import Derived.Test.YtmgnekjhlfghaaaGreatM35
import Derived.Test.YtmgnekjhlfghaaaGreatM30
import Derived.Test.YtmgnekjhlfghaaaGreatM26
/-
  The document's reader behind Load: End, texts, row.
-/
namespace Go.Proofs.YtmgnekjhlfghaaaGreat
open Go.RowKit QLd
set_option linter.unusedVariables false
set_option linter.unusedSimpArgs false

/-- The document's reader, wherever its last read began. -/
def RqT (r : Nat) (s : RS) : Thing := fun w F G => ∃ z, RrT r s z w F G
instance (r : Nat) (s : RS) (z : Int) : Loc (RrT r s z) := (inferInstance : Loc (own (Blk1 _ _)))
instance (r : Nat) (s : RS) : Loc (RqT r s) where
  keep := fun ⟨z, h⟩ hF hd hg => ⟨z, Loc.keep (A := RrT r s z) h hF hd hg⟩
  lt := fun ⟨z, h⟩ => Loc.lt (A := RrT r s z) h
section
variable {W : Base} {w : World} {R : List Thing}
theorem St.rqOpen (H : St W w R) (i : Nat) {r : Nat} {s : RS} (hi : R[i]? = some (RqT r s)) : ∃ z, St W w (R.set i (RrT r s z)) := by
  obtain ⟨F, G, hA, h2, h3, hset⟩ := H.atG i hi
  obtain ⟨z, hz⟩ := hA
  exact ⟨z, hset w F G (RrT r s z) inferInstance hz (Fr.refl _ _) (fun x hx => .inl hx) (fun x hx => .inr (.inl hx)) h3⟩
theorem St.rqClose (H : St W w R) (i : Nat) {r : Nat} {s : RS} {z : Int} (hi : R[i]? = some (RrT r s z)) : St W w (R.set i (RqT r s)) := by
  obtain ⟨F, G, hA, h2, h3, hset⟩ := H.atG i hi
  exact hset w F G (RqT r s) inferInstance ⟨z, hA⟩ (Fr.refl _ _) (fun x hx => .inl hx) (fun x hx => .inr (.inl hx)) h3
theorem St.rqSet {s s' : RS} {i r : Nat} {z z' : Int} (hil : i < R.length) (H : St W w ((R.set i (RrT r s z)).set i (RrT r s' z'))) : St W w (R.set i (RqT r s')) := by
  have h := H.rqClose i (r := r) (s := s') (z := z') (List.getElem?_set_self (by simpa using hil))
  rwa [List.set_set, List.set_set] at h
theorem st_qNum (H : St W w R) (i : Nat) {r : Nat} {s : RS} (hi : R[i]? = some (RqT r s)) (hw : s.wf) (m : Nat) (hm : m < 18446744073709551616) :
    Calls Tryz.prog 56 #[.pointer (some ⟨r, 0, none⟩), .int .u64 m] w fun e w' => e = .returned (.int .u64 (s.nG m : Nat)) ∧ St W w' (R.set i (RqT r (s.nF m))) := by
  have hil := lt_of_get hi
  obtain ⟨z, H1⟩ := H.rqOpen i hi
  refine (st_rNum H1 i (List.getElem?_set_self hil) hw m hm).mono ?_
  rintro e w' ⟨rfl, z', H2⟩
  exact ⟨rfl, H2.rqSet hil⟩
theorem st_qList (H : St W w R) (i : Nat) {r : Nat} {s : RS} (hi : R[i]? = some (RqT r s)) (hw : s.wf) :
    Calls Tryz.prog 114 #[.pointer (some ⟨r, 0, none⟩), .int .i64 32] w fun e w' => e = .returned (.int .i64 (s.lG 32 : Nat)) ∧ St W w' (R.set i (RqT r (s.lF 32))) := by
  have hil := lt_of_get hi
  obtain ⟨z, H1⟩ := H.rqOpen i hi
  refine (st_rList H1 i (List.getElem?_set_self hil) hw 32 (by decide)).mono ?_
  rintro e w' ⟨rfl, z', H2⟩
  exact ⟨rfl, H2.rqSet hil⟩
theorem st_qText (H : St W w R) (i : Nat) {r : Nat} {s : RS} (hi : R[i]? = some (RqT r s)) (hw : s.wf) (m : Nat) (hm : m ≤ 9223372036854775807) :
    Calls Tryz.prog 58 #[.pointer (some ⟨r, 0, none⟩), .int .i64 m] w fun e w' => e = .returned (.string (s.tG m)) ∧ St W w' (R.set i (RqT r (s.tF m))) := by
  have hil := lt_of_get hi
  obtain ⟨z, H1⟩ := H.rqOpen i hi
  refine (st_rText H1 i (List.getElem?_set_self hil) hw m hm).mono ?_
  rintro e w' ⟨rfl, z', H2⟩
  exact ⟨rfl, H2.rqSet hil⟩
theorem st_qBits (H : St W w R) (i : Nat) {r : Nat} {s : RS} (hi : R[i]? = some (RqT r s)) (hw : s.wf) :
    Calls Tryz.prog 112 #[.pointer (some ⟨r, 0, none⟩)] w fun e w' => e = .returned (.int .u64 (s.bG : Nat)) ∧ St W w' (R.set i (RqT r s.bF)) := by
  have hil := lt_of_get hi
  obtain ⟨z, H1⟩ := H.rqOpen i hi
  refine (st_rBits H1 i (List.getElem?_set_self hil) hw).mono ?_
  rintro e w' ⟨rfl, z', H2⟩
  exact ⟨rfl, H2.rqSet hil⟩
set_option maxHeartbeats 800000 in
theorem st_qEnd (H : St W w R) (i : Nat) {r : Nat} {s : RS} (hi : R[i]? = some (RqT r s)) :
    Calls Tryz.prog 60 #[.pointer (some ⟨r, 0, none⟩)] w fun e w' => ∃ z : Int, e = .returned (.tuple #[.int .i64 s.end_.1, .int .i64 z]) ∧ St W w' R := by
  have hil := lt_of_get hi
  obtain ⟨z, H1⟩ := H.rqOpen i hi
  obtain ⟨c0, c1, c2, f, hl⟩ := H1.rr i (List.getElem?_set_self hil)
  have c3 : w.cell? ⟨r, 3, none⟩ = some (.int .i64 z) := cell_blk (H1.blk i (List.getElem?_set_self hil)) rfl
  have HH := hid (fun m => H.drewN m)
  clear H H1 hi f
  unfold RS.end_
  by_cases h : s.e = 0
  · by_cases h2 : s.at_ < s.b.size
    · rw [if_pos ⟨h, h2⟩]
      rw [h] at c2
      have h3 : (s.at_ : Int) < s.b.size := by omega
      have h4 : decide ((s.at_ : Int) < s.b.size) = true := decide_eq_true h3
      clear h hil
      go_enter Tryz.func60, Tryz.ntmps60
      go_wp2_with fail
      go_quiet (fail)
      go_wp2_with fail
      go_quiet (fail)
      go_wp2_with fail
      go_ret2
      exact ⟨_, rfl, (HH.out _).drewN _⟩
    · rw [if_neg (fun h => h2 h.2)]
      have hf : s.fault.1 = s.e := by unfold RS.fault; (try split) <;> (try simp_all)
      rw [hf, h]
      rw [h] at c2
      have h3 : ¬ (s.at_ : Int) < s.b.size := by omega
      have h4 : decide ((s.at_ : Int) < s.b.size) = false := decide_eq_false h3
      clear h hil hf
      go_enter Tryz.func60, Tryz.ntmps60
      go_wp2_with fail
      go_quiet (fail)
      go_wp2_with fail
      go_quiet (fail)
      go_wp2_with fail
      go_ret2
      exact ⟨_, rfl, (HH.out _).drewN _⟩
  · rw [if_neg (fun h2 => h h2.1)]
    have hf : s.fault.1 = s.e := by unfold RS.fault; (try split) <;> (try simp_all)
    rw [hf]
    have e1 : (s.e == 0) = false := by rw [beq_eq_false_iff_ne]; exact h
    generalize s.e = y at c2 e1 h ⊢
    clear h hil hf
    go_enter Tryz.func60, Tryz.ntmps60
    go_wp2_with fail
    go_quiet (fail)
    go_wp2_with fail
    go_quiet (fail)
    go_wp2_with fail
    go_ret2
    exact ⟨_, rfl, (HH.out _).drewN _⟩
set_option maxHeartbeats 800000 in
set_option maxRecDepth 100000 in
theorem st_qtexts (H : St W w R) (i : Nat) {r : Nat} {s : RS} (hi : R[i]? = some (RqT r s)) (hw : s.wf) :
    Calls Tryz.prog 59 #[.pointer (some ⟨r, 0, none⟩)] w fun e w' => ∃ a c, e = .returned (.slice a (s.lG 32) c) ∧ St W w' (R.set i (RqT r (txF (s.lF 32) (s.lG 32))) ++ [RowT 9 1 (.slice a (s.lG 32) c) (s.lG 32) (sL.cells (tx (s.lF 32) (s.lG 32)))]) := by
  obtain ⟨i0, hi0, hz0, hz1, hz2⟩ := info_parts info_gs
  have HI := hid (And.intro hi0 (And.intro hz0 (And.intro hz1 hz2)))
  have hil := lt_of_get hi
  have hL := hid (st_qList H i hi hw)
  have hn32 : (s.lG 32 : Int) ≤ 32 := RS.lG_le s (by decide)
  have hw1 : (s.lF 32).wf := RS.lF_wf hw 32
  generalize s.lF 32 = s1 at hL hw1 ⊢
  obtain ⟨n, hn⟩ : ∃ n : Nat, s.lG 32 = n := ⟨_, rfl⟩
  rw [hn] at hL hn32 ⊢
  have HW := hid hw1
  have HN := hid (And.intro hn32 hil)
  clear H hi hw hn hw1 hn32 hil hi0 hz0 hz1 hz2
  go_enter Tryz.func59, Tryz.ntmps59
  go_wp2_with (go_at_call 114; refine hL.out.mono ?_; rintro e w1 ⟨rfl, H1⟩; have H1 := hid H1)
  go_wp2_with fail
  have H2 := hid (H1.out.newRow 9 1)
  go_loopw [4, 5] (fun lv iv wr => ∃ (k : Nat) (a : Option Addr) (c : Nat), k ≤ n ∧ lv = .slice a k c ∧ iv = .int .i64 k ∧ Hid (St W wr (R.set i (RqT r (txF s1 k)) ++ [RowT 9 1 (.slice a k c) k (sL.cells (tx s1 k))]))) (fun _ iv _ => n - (intOf iv).toNat)
  case atStart => exact ⟨0, _, _, Nat.zero_le _, rfl, rfl, H2⟩
  case round =>
    clear H1 H2
    obtain ⟨k, a, c, hk, rfl, rfl, HK⟩ := hrel
    by_cases hlt : k < n
    · have hT := hid (st_qText HK.out i (get_l (List.getElem?_set_self HN.out.2)) (txF_wf HW.out k) 32 (by decide))
      have hk0 : (0 : Int) ≤ k := by omega
      have hk1 : (k : Int) < n := by omega
      have HLT := hid hlt
      have HM := hid (show k + 1 ≤ maxLen ∧ (k + 1) * 16 ≤ 140737488355328 from by have := HN.out.1; unfold maxLen; omega)
      clear hlt hk
      go_wp2_with fail
      refine hT.out.mono ?_
      rintro e w3 ⟨rfl, H3⟩
      rw [List.set_append_left _ _ (by rw [List.length_set]; exact HN.out.2), List.set_set] at H3
      obtain ⟨x, hx⟩ : ∃ x, (txF s1 k).tG ((32 : Nat) : Int) = x := ⟨_, rfl⟩
      rw [hx]
      have HX := hid hx
      clear hx
      have H4 := hid (show St W (w3.alloc (.cells #[.string x] 9)) (R.set i (RqT r (txF s1 (k + 1))) ++ [RowT 9 1 (.slice a k c) k (sL.cells (tx s1 k)), BlkT w3.heap.size (.cells #[.string x] 9)]) from by
        have h := H3.alloc (.cells #[.string x] 9)
        rw [List.append_assoc] at h; exact h)
      clear H3 hT
      go_wp2_with (at_builtin; refine wpAdded H4.out ((R.set i (RqT r (txF s1 (k + 1)))).length + 0) rfl (.tmp 17) (.tmp 19) 41 rfl 9 i0 (.string ByteArray.empty) 1 16 Tryz.underlying41 HI.out.1 HI.out.2.1 HI.out.2.2.1 HI.out.2.2.2 rfl (by decide) (.slice a k c) k (sL.cells (tx s1 k)) (by rw [get_behind]; rfl) rfl (some ⟨w3.heap.size, 0, none⟩) 1 1 (fun q => ([.string x] : List Value).getD q undef) rfl (H4.out.blkIn ((R.set i (RqT r (txF s1 (k + 1)))).length + 1) 1 1 rfl (by decide) (by rw [get_behind]; rfl)) (fun j hj => by (obtain rfl : j = 0 := by omega); rfl) HM.out.1 HM.out.2 ?_)
      intro a5 c5 w5 H5
      have e5 : sL.cells (tx s1 k) ++ [.string x] = sL.cells (tx s1 (k + 1)) := by
        rw [tx, ← sL.snoc, show (txF s1 k).tG 32 = x from HX.out]; rfl
      rw [e5] at H5
      have H6 := hid (show St W w5 (R.set i (RqT r (txF s1 (k + 1))) ++ [RowT 9 1 (.slice a5 (k + 1) c5) (k + 1) (sL.cells (tx s1 (k + 1)))]) from by
        have h : St W w5 (R.set i (RqT r (txF s1 (k + 1))) ++ ([RowT 9 1 (.slice a5 (k + 1) c5) (k + 1) (sL.cells (tx s1 (k + 1)))] ++ [BlkT w3.heap.size (.cells #[.string x] 9)])) := by simpa using H5
        rw [← List.append_assoc] at h
        exact h.drop)
      clear H5 e5
      go_wp2_with fail
      go_roundw
      case rel => have := HN.out.1; exact ⟨k + 1, a5, c5, HLT.out, rfl, by rw [IntWalk.wrap64_in _ (by omega)]; rfl, H6⟩
      case measure => have := HLT.out; have := HN.out.1; rw [IntWalk.wrap64_in _ (by omega)]; simp [intOf]; omega
    · obtain rfl : k = n := by omega
      go_wp2_with fail
      go_ret
      exact ⟨a, c, rfl, HK.out⟩
end
end Go.Proofs.YtmgnekjhlfghaaaGreat

/-
  The document's reader behind Load: row.
-/
namespace Go.Proofs.YtmgnekjhlfghaaaGreat
open Go.RowKit QLd
set_option linter.unusedVariables false
set_option linter.unusedSimpArgs false

section
variable {W : Base} {w : World} {R : List Thing}
set_option maxHeartbeats 1000000 in
set_option maxRecDepth 100000 in
theorem st_trow (H : St W w R) (i : Nat) {r : Nat} {s : RS} (hi : R[i]? = some (RqT r s)) (hw : s.wf) (job : Int) :
    Calls Tryz.prog 57 #[.pointer (some ⟨r, 0, none⟩), .int .i64 job] w fun e w' => e = .returned (.agg (QR.f (s.row job)).toArray) ∧ St W w' (R.set i (RqT r s.rowF)) := by
  have hil := lt_of_get hi
  have hself := things_set_self hi
  unfold RS.row RS.rowF
  have hw1 := RS.nF_wf hw 4
  have hb1 := s.nG_le 4
  have HN1 := hid (fun (wx : World) (T : List Thing) (h : St W wx (R.set i (RqT r s) ++ T)) => st_qNum h i (get_l (List.getElem?_set_self hil)) hw 4 (by decide))
  obtain ⟨s1, hs1⟩ : ∃ s1, s.nF 4 = s1 := ⟨_, rfl⟩
  obtain ⟨g1, hg1⟩ : ∃ g1 : Nat, s.nG 4 = g1 := ⟨_, rfl⟩
  rw [hs1, hg1] at HN1
  rw [hs1] at hw1
  rw [hg1] at hb1
  simp only [hs1, hg1]
  have hv1 : IntKind.i64.wrap (g1 : Int) = g1 := IntWalk.i64_in _ (by omega)
  clear hs1 hg1 hb1
  have hw2 := RS.nF_wf hw1 8
  have hb2 := s1.nG_le 8
  have HN2 := hid (fun (wx : World) (T : List Thing) (h : St W wx (R.set i (RqT r s1) ++ T)) => st_qNum h i (get_l (List.getElem?_set_self hil)) hw1 8 (by decide))
  obtain ⟨s2, hs2⟩ : ∃ s2, s1.nF 8 = s2 := ⟨_, rfl⟩
  obtain ⟨g2, hg2⟩ : ∃ g2 : Nat, s1.nG 8 = g2 := ⟨_, rfl⟩
  rw [hs2, hg2] at HN2
  rw [hs2] at hw2
  rw [hg2] at hb2
  simp only [hs2, hg2]
  have hv2 : IntKind.i64.wrap (g2 : Int) = g2 := IntWalk.i64_in _ (by omega)
  clear hs2 hg2 hb2
  have hw3 := RS.nF_wf hw2 1099511627776
  have hb3 := s2.nG_le 1099511627776
  have HN3 := hid (fun (wx : World) (T : List Thing) (h : St W wx (R.set i (RqT r s2) ++ T)) => st_qNum h i (get_l (List.getElem?_set_self hil)) hw2 1099511627776 (by decide))
  obtain ⟨s3, hs3⟩ : ∃ s3, s2.nF 1099511627776 = s3 := ⟨_, rfl⟩
  obtain ⟨g3, hg3⟩ : ∃ g3 : Nat, s2.nG 1099511627776 = g3 := ⟨_, rfl⟩
  rw [hs3, hg3] at HN3
  rw [hs3] at hw3
  rw [hg3] at hb3
  simp only [hs3, hg3]
  have hv3 : IntKind.i64.wrap (g3 : Int) = g3 := IntWalk.i64_in _ (by omega)
  clear hs3 hg3 hb3
  have hw4 := RS.nF_wf hw3 9
  have hb4 := s3.nG_le 9
  have HN4 := hid (fun (wx : World) (T : List Thing) (h : St W wx (R.set i (RqT r s3) ++ T)) => st_qNum h i (get_l (List.getElem?_set_self hil)) hw3 9 (by decide))
  obtain ⟨s4, hs4⟩ : ∃ s4, s3.nF 9 = s4 := ⟨_, rfl⟩
  obtain ⟨g4, hg4⟩ : ∃ g4 : Nat, s3.nG 9 = g4 := ⟨_, rfl⟩
  rw [hs4, hg4] at HN4
  rw [hs4] at hw4
  rw [hg4] at hb4
  simp only [hs4, hg4]
  have hv4 : IntKind.i64.wrap (g4 : Int) = g4 := IntWalk.i64_in _ (by omega)
  clear hs4 hg4 hb4
  have hw5 := RS.nF_wf hw4 1099511627776
  have hb5 := s4.nG_le 1099511627776
  have HN5 := hid (fun (wx : World) (T : List Thing) (h : St W wx (R.set i (RqT r s4) ++ T)) => st_qNum h i (get_l (List.getElem?_set_self hil)) hw4 1099511627776 (by decide))
  obtain ⟨s5, hs5⟩ : ∃ s5, s4.nF 1099511627776 = s5 := ⟨_, rfl⟩
  obtain ⟨g5, hg5⟩ : ∃ g5 : Nat, s4.nG 1099511627776 = g5 := ⟨_, rfl⟩
  rw [hs5, hg5] at HN5
  rw [hs5] at hw5
  rw [hg5] at hb5
  simp only [hs5, hg5]
  have hv5 : IntKind.i64.wrap (g5 : Int) = g5 := IntWalk.i64_in _ (by omega)
  clear hs5 hg5 hb5
  have hw6 := RS.nF_wf hw5 7
  have hb6 := s5.nG_le 7
  have HN6 := hid (fun (wx : World) (T : List Thing) (h : St W wx (R.set i (RqT r s5) ++ T)) => st_qNum h i (get_l (List.getElem?_set_self hil)) hw5 7 (by decide))
  obtain ⟨s6, hs6⟩ : ∃ s6, s5.nF 7 = s6 := ⟨_, rfl⟩
  obtain ⟨g6, hg6⟩ : ∃ g6 : Nat, s5.nG 7 = g6 := ⟨_, rfl⟩
  rw [hs6, hg6] at HN6
  rw [hs6] at hw6
  rw [hg6] at hb6
  simp only [hs6, hg6]
  have hv6 : IntKind.i64.wrap (g6 : Int) = g6 := IntWalk.i64_in _ (by omega)
  clear hs6 hg6 hb6
  have HN7 := hid (fun (wx : World) (T : List Thing) (h : St W wx (R.set i (RqT r s6) ++ T)) => st_qBits h i (get_l (List.getElem?_set_self hil)) hw6)
  obtain ⟨s7, hs7⟩ : ∃ s7, s6.bF = s7 := ⟨_, rfl⟩
  obtain ⟨g7, hg7⟩ : ∃ g7 : Nat, s6.bG = g7 := ⟨_, rfl⟩
  rw [hs7, hg7] at HN7
  simp only [hs7, hg7]
  obtain ⟨rb, hrb⟩ : ∃ rb, w.heap.size = rb := ⟨_, rfl⟩
  have H0 := hid (show St W ((w.alloc (.cells #[.int .i64 0, .int .i64 0, .int .i64 0, .int .i64 0, .int .i64 0, .int .i64 0, .int .i64 0, .int .u64 0] 51)).alloc (.cells #[.int .i64 job, .int .i64 0, .int .i64 0, .int .i64 0, .int .i64 0, .int .i64 0, .int .i64 0, .int .u64 0] 51)) (R.set i (RqT r s) ++ [BlkT rb (.cells #[.int .i64 0, .int .i64 0, .int .i64 0, .int .i64 0, .int .i64 0, .int .i64 0, .int .i64 0, .int .u64 0] 51), BlkT (rb + 1) (.cells #[.int .i64 job, .int .i64 0, .int .i64 0, .int .i64 0, .int .i64 0, .int .i64 0, .int .i64 0, .int .u64 0] 51)]) from by
    have h := (H.alloc (.cells #[.int .i64 0, .int .i64 0, .int .i64 0, .int .i64 0, .int .i64 0, .int .i64 0, .int .i64 0, .int .u64 0] 51)).allocAt (.cells #[.int .i64 job, .int .i64 0, .int .i64 0, .int .i64 0, .int .i64 0, .int .i64 0, .int .i64 0, .int .u64 0] 51) (w.heap.size + 1) (by simp)
    rw [List.append_assoc, hrb] at h
    rw [hself]; exact h)
  have HRB := hid hrb
  have HL := hid hil
  clear H hi hw hw1 hw2 hw3 hw4 hw5 hw6 hs7 hg7 hrb hself hil
  go_enter Tryz.func57, Tryz.ntmps57
  go_upto_region 2 with (fail)
  rw [HRB.out]
  generalize (w.alloc (.cells #[.int .i64 0, .int .i64 0, .int .i64 0, .int .i64 0, .int .i64 0, .int .i64 0, .int .i64 0, .int .u64 0] 51)).alloc (.cells #[.int .i64 job, .int .i64 0, .int .i64 0, .int .i64 0, .int .i64 0, .int .i64 0, .int .i64 0, .int .u64 0] 51) = w0 at H0 ⊢
  go_wp2_with fail
  refine (HN1.out _ _ H0.out).mono ?_
  rintro e w1 ⟨rfl, h⟩
  rw [List.set_append_left _ _ (by rw [List.length_set]; exact HL.out), List.set_set] at h
  have b := h.blk ((R.set i (RqT r s1)).length + 1) (by rw [get_behind]; rfl)
  have c := cell_blk (i := 1) b rfl
  have f := free_blk (i := 1) b
  have lb := lt_of_block b
  have h2 := h.setBlk ((R.set i (RqT r s1)).length + 1) (by rw [get_behind]; rfl) 1 (.int .i64 (g1 : Nat))
  rw [set_behind] at h2
  have K1 := hid (show St W (w1.setCell ⟨rb + 1, 1, none⟩ (.int .i64 (g1 : Nat))) (R.set i (RqT r s1) ++ [BlkT rb (.cells #[.int .i64 0, .int .i64 0, .int .i64 0, .int .i64 0, .int .i64 0, .int .i64 0, .int .i64 0, .int .u64 0] 51), BlkT (rb + 1) (.cells #[.int .i64 job, .int .i64 (g1 : Nat), .int .i64 0, .int .i64 0, .int .i64 0, .int .i64 0, .int .i64 0, .int .u64 0] 51)]) from h2)
  clear b h h2
  go_wp2_with fail
  refine (HN2.out _ _ K1.out).mono ?_
  rintro e w2 ⟨rfl, h⟩
  rw [List.set_append_left _ _ (by rw [List.length_set]; exact HL.out), List.set_set] at h
  have b := h.blk ((R.set i (RqT r s2)).length + 1) (by rw [get_behind]; rfl)
  have c := cell_blk (i := 2) b rfl
  have f := free_blk (i := 2) b
  have lb := lt_of_block b
  have h2 := h.setBlk ((R.set i (RqT r s2)).length + 1) (by rw [get_behind]; rfl) 2 (.int .i64 (g2 : Nat))
  rw [set_behind] at h2
  have K2 := hid (show St W (w2.setCell ⟨rb + 1, 2, none⟩ (.int .i64 (g2 : Nat))) (R.set i (RqT r s2) ++ [BlkT rb (.cells #[.int .i64 0, .int .i64 0, .int .i64 0, .int .i64 0, .int .i64 0, .int .i64 0, .int .i64 0, .int .u64 0] 51), BlkT (rb + 1) (.cells #[.int .i64 job, .int .i64 (g1 : Nat), .int .i64 (g2 : Nat), .int .i64 0, .int .i64 0, .int .i64 0, .int .i64 0, .int .u64 0] 51)]) from h2)
  clear b h h2
  go_wp2_with fail
  refine (HN3.out _ _ K2.out).mono ?_
  rintro e w3 ⟨rfl, h⟩
  rw [List.set_append_left _ _ (by rw [List.length_set]; exact HL.out), List.set_set] at h
  have b := h.blk ((R.set i (RqT r s3)).length + 1) (by rw [get_behind]; rfl)
  have c := cell_blk (i := 3) b rfl
  have f := free_blk (i := 3) b
  have lb := lt_of_block b
  have h2 := h.setBlk ((R.set i (RqT r s3)).length + 1) (by rw [get_behind]; rfl) 3 (.int .i64 (g3 : Nat))
  rw [set_behind] at h2
  have K3 := hid (show St W (w3.setCell ⟨rb + 1, 3, none⟩ (.int .i64 (g3 : Nat))) (R.set i (RqT r s3) ++ [BlkT rb (.cells #[.int .i64 0, .int .i64 0, .int .i64 0, .int .i64 0, .int .i64 0, .int .i64 0, .int .i64 0, .int .u64 0] 51), BlkT (rb + 1) (.cells #[.int .i64 job, .int .i64 (g1 : Nat), .int .i64 (g2 : Nat), .int .i64 (g3 : Nat), .int .i64 0, .int .i64 0, .int .i64 0, .int .u64 0] 51)]) from h2)
  clear b h h2
  go_wp2_with fail
  refine (HN4.out _ _ K3.out).mono ?_
  rintro e w4 ⟨rfl, h⟩
  rw [List.set_append_left _ _ (by rw [List.length_set]; exact HL.out), List.set_set] at h
  have b := h.blk ((R.set i (RqT r s4)).length + 1) (by rw [get_behind]; rfl)
  have c := cell_blk (i := 4) b rfl
  have f := free_blk (i := 4) b
  have lb := lt_of_block b
  have h2 := h.setBlk ((R.set i (RqT r s4)).length + 1) (by rw [get_behind]; rfl) 4 (.int .i64 (g4 : Nat))
  rw [set_behind] at h2
  have K4 := hid (show St W (w4.setCell ⟨rb + 1, 4, none⟩ (.int .i64 (g4 : Nat))) (R.set i (RqT r s4) ++ [BlkT rb (.cells #[.int .i64 0, .int .i64 0, .int .i64 0, .int .i64 0, .int .i64 0, .int .i64 0, .int .i64 0, .int .u64 0] 51), BlkT (rb + 1) (.cells #[.int .i64 job, .int .i64 (g1 : Nat), .int .i64 (g2 : Nat), .int .i64 (g3 : Nat), .int .i64 (g4 : Nat), .int .i64 0, .int .i64 0, .int .u64 0] 51)]) from h2)
  clear b h h2
  go_wp2_with fail
  refine (HN5.out _ _ K4.out).mono ?_
  rintro e w5 ⟨rfl, h⟩
  rw [List.set_append_left _ _ (by rw [List.length_set]; exact HL.out), List.set_set] at h
  have b := h.blk ((R.set i (RqT r s5)).length + 1) (by rw [get_behind]; rfl)
  have c := cell_blk (i := 5) b rfl
  have f := free_blk (i := 5) b
  have lb := lt_of_block b
  have h2 := h.setBlk ((R.set i (RqT r s5)).length + 1) (by rw [get_behind]; rfl) 5 (.int .i64 (g5 : Nat))
  rw [set_behind] at h2
  have K5 := hid (show St W (w5.setCell ⟨rb + 1, 5, none⟩ (.int .i64 (g5 : Nat))) (R.set i (RqT r s5) ++ [BlkT rb (.cells #[.int .i64 0, .int .i64 0, .int .i64 0, .int .i64 0, .int .i64 0, .int .i64 0, .int .i64 0, .int .u64 0] 51), BlkT (rb + 1) (.cells #[.int .i64 job, .int .i64 (g1 : Nat), .int .i64 (g2 : Nat), .int .i64 (g3 : Nat), .int .i64 (g4 : Nat), .int .i64 (g5 : Nat), .int .i64 0, .int .u64 0] 51)]) from h2)
  clear b h h2
  go_wp2_with fail
  refine (HN6.out _ _ K5.out).mono ?_
  rintro e w6 ⟨rfl, h⟩
  rw [List.set_append_left _ _ (by rw [List.length_set]; exact HL.out), List.set_set] at h
  have b := h.blk ((R.set i (RqT r s6)).length + 1) (by rw [get_behind]; rfl)
  have c := cell_blk (i := 6) b rfl
  have f := free_blk (i := 6) b
  have lb := lt_of_block b
  have h2 := h.setBlk ((R.set i (RqT r s6)).length + 1) (by rw [get_behind]; rfl) 6 (.int .i64 (g6 : Nat))
  rw [set_behind] at h2
  have K6 := hid (show St W (w6.setCell ⟨rb + 1, 6, none⟩ (.int .i64 (g6 : Nat))) (R.set i (RqT r s6) ++ [BlkT rb (.cells #[.int .i64 0, .int .i64 0, .int .i64 0, .int .i64 0, .int .i64 0, .int .i64 0, .int .i64 0, .int .u64 0] 51), BlkT (rb + 1) (.cells #[.int .i64 job, .int .i64 (g1 : Nat), .int .i64 (g2 : Nat), .int .i64 (g3 : Nat), .int .i64 (g4 : Nat), .int .i64 (g5 : Nat), .int .i64 (g6 : Nat), .int .u64 0] 51)]) from h2)
  clear b h h2
  go_wp2_with fail
  refine (HN7.out _ _ K6.out).mono ?_
  rintro e w7 ⟨rfl, h⟩
  rw [List.set_append_left _ _ (by rw [List.length_set]; exact HL.out), List.set_set] at h
  have b := h.blk ((R.set i (RqT r s7)).length + 1) (by rw [get_behind]; rfl)
  have c := cell_blk (i := 7) b rfl
  have f := free_blk (i := 7) b
  have lb := lt_of_block b
  have h2 := h.setBlk ((R.set i (RqT r s7)).length + 1) (by rw [get_behind]; rfl) 7 (.int .u64 (g7 : Nat))
  rw [set_behind] at h2
  have K7 := hid (show St W (w7.setCell ⟨rb + 1, 7, none⟩ (.int .u64 (g7 : Nat))) (R.set i (RqT r s7) ++ [BlkT rb (.cells #[.int .i64 0, .int .i64 0, .int .i64 0, .int .i64 0, .int .i64 0, .int .i64 0, .int .i64 0, .int .u64 0] 51), BlkT (rb + 1) (.cells #[.int .i64 job, .int .i64 (g1 : Nat), .int .i64 (g2 : Nat), .int .i64 (g3 : Nat), .int .i64 (g4 : Nat), .int .i64 (g5 : Nat), .int .i64 (g6 : Nat), .int .u64 (g7 : Nat)] 51)]) from h2)
  clear b h h2
  go_upto_region 9 with (fail)
  generalize w7.setCell ⟨rb + 1, 7, none⟩ _ = w8 at K7 ⊢
  have b := K7.out.blk ((R.set i (RqT r s7)).length + 1) (by rw [get_behind]; rfl)
  have z := K7.out.blk ((R.set i (RqT r s7)).length + 0) (by rw [get_behind]; rfl)
  have x0 := cell_blk (i := 0) b rfl
  have y0 := cell_blk (i := 0) z rfl
  have f0 := free_blk (i := 0) z
  have x1 := cell_blk (i := 1) b rfl
  have y1 := cell_blk (i := 1) z rfl
  have f1 := free_blk (i := 1) z
  have x2 := cell_blk (i := 2) b rfl
  have y2 := cell_blk (i := 2) z rfl
  have f2 := free_blk (i := 2) z
  have x3 := cell_blk (i := 3) b rfl
  have y3 := cell_blk (i := 3) z rfl
  have f3 := free_blk (i := 3) z
  have x4 := cell_blk (i := 4) b rfl
  have y4 := cell_blk (i := 4) z rfl
  have f4 := free_blk (i := 4) z
  have x5 := cell_blk (i := 5) b rfl
  have y5 := cell_blk (i := 5) z rfl
  have f5 := free_blk (i := 5) z
  have x6 := cell_blk (i := 6) b rfl
  have y6 := cell_blk (i := 6) z rfl
  have f6 := free_blk (i := 6) z
  have x7 := cell_blk (i := 7) b rfl
  have y7 := cell_blk (i := 7) z rfl
  have f7 := free_blk (i := 7) z
  have lz := lt_of_block z
  clear b z c f lb
  have h9 := St.blk8 (T := R.set i (RqT r s7)) (rest := [BlkT (rb + 1) (.cells #[.int .i64 job, .int .i64 (g1 : Nat), .int .i64 (g2 : Nat), .int .i64 (g3 : Nat), .int .i64 (g4 : Nat), .int .i64 (g5 : Nat), .int .i64 (g6 : Nat), .int .u64 (g7 : Nat)] 51)]) (.int .i64 job) (.int .i64 (g1 : Nat)) (.int .i64 (g2 : Nat)) (.int .i64 (g3 : Nat)) (.int .i64 (g4 : Nat)) (.int .i64 (g5 : Nat)) (.int .i64 (g6 : Nat)) (.int .u64 (g7 : Nat)) K7.out
  have b := h9.blk ((R.set i (RqT r s7)).length + 0) (by rw [get_behind]; rfl)
  have q0 := cell_blk (i := 0) b rfl
  have q1 := cell_blk (i := 1) b rfl
  have q2 := cell_blk (i := 2) b rfl
  have q3 := cell_blk (i := 3) b rfl
  have q4 := cell_blk (i := 4) b rfl
  have q5 := cell_blk (i := 5) b rfl
  have q6 := cell_blk (i := 6) b rfl
  have q7 := cell_blk (i := 7) b rfl
  have H9 := hid h9.drop
  clear h9 b
  go_wp2_with fail
  (try simp only [Exit.inBlock, Exit.then])
  refine bodyPost_ret (v := .agg #[.int .i64 job, .int .i64 (g1 : Nat), .int .i64 (g2 : Nat), .int .i64 (g3 : Nat), .int .i64 (g4 : Nat), .int .i64 (g5 : Nat), .int .i64 (g6 : Nat), .int .u64 (g7 : Nat)]) (by simp [results, Tryz.results57, go_sem, q0, q1, q2, q3, q4, q5, q6, q7]) rfl ?_
  exact ⟨rfl, H9.out⟩
end
end Go.Proofs.YtmgnekjhlfghaaaGreat
