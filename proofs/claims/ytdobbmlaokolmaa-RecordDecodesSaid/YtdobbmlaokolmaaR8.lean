/-
  record: the reader: change.
-/
import Derived.Test.YtdobbmlaokolmaaRT
import Derived.Test.YtdobbmlaokolmaaR1
namespace Go.Proofs.Ytdobbmlaokolmaa
open Go.RowKit
set_option linter.unusedVariables false
set_option linter.unusedSimpArgs false

section
variable {W : Base} {w : World} {R : List Thing} {i : Nat}

/-- What change comes to. -/
def ChTo (W : Base) (R : List Thing) (i r : Nat) (b : ByteArray) (Z : Option (CV × Nat)) (e : Ending) (w' : World) : Prop :=
  match Z with
  | some (c, q) => ∃ t, e = .returned (.agg (c.f t).toArray) ∧ St W w' (R.set i (RdT r ⟨b, q, 0⟩) ++ [TxT t c.texts])
  | none => Pan W R i r e w'
theorem ChTo.pan {r : Nat} {b : ByteArray} {Z : Option (CV × Nat)} {e : Ending} {w' : World} (hZ : Z = none) (h : Pan W R i r e w') : ChTo W R i r b Z e w' := by subst hZ; exact h

theorem rdLets_at {b : ByteArray} {l : List UInt8} {k : Nat} {x : UInt8} (hx : l[k]? = some x) (c : CV) (p : Nat) : rdLets b (l.drop k) c p = (rdLet b c p x).bind fun y => rdLets b (l.drop (k + 1)) y.1 y.2 := by
  obtain ⟨hk, rfl⟩ := List.getElem?_eq_some_iff.1 hx
  rw [List.drop_eq_getElem_cons hk]
  rfl

set_option maxHeartbeats 4000000 in
set_option maxRecDepth 100000 in
theorem change_walk {r p : Nat} {b : ByteArray} (H : St W w (R.set i (RdT r ⟨b, p, 0⟩))) (hil : i < R.length) (hwf : RS.wf ⟨b, p, 0⟩) :
    Calls Try.prog 36 #[rdr r] w (ChTo W R i r b (rdChange b p)) := by
  obtain ⟨Z, hZ⟩ : ∃ Z, rdChange b p = Z := ⟨_, rfl⟩
  rw [hZ]
  unfold rdChange at hZ
  have hZ := hid hZ
  have HA := hid ((H.alloc (.cells #[.pointer (some ⟨r, 0, none⟩)] 55)).allocAt (.cells #[.int .i64 0, .int .i64 0, .int .i64 0, .int .i64 0, .int .i64 0, .int .i64 0, .int .i64 0, .int .u64 0, .string ⟨#[]⟩, .slice none 0 0] 27) (w.heap.size + 1) (by simp))
  have hil := hid hil
  have hwf := hid hwf
  clear H
  unfold rdr
  rcases hX : rdMost b p 6 21 with c | ⟨kn, q⟩
  · go_enter Try.func36, Try.ntmps36
    go_wp2_with (go_at_call 35; refine (stc_num_no (T := [_, _]) (by have h := HA.out; rw [List.append_assoc] at h; exact h) hil.out hwf.out (by decide) (by decide) hX).mono ?_; rintro e w1 ⟨rfl, H1⟩)
    refine ⟨rfl, ChTo.pan ?_ ⟨rfl, H1⟩⟩
    have h1 := hZ.out
    rw [rdNum_no hX] at h1
    exact h1.symm
  · go_enter Try.func36, Try.ntmps36
    go_wp2_with (first
      | (go_at_call 35; refine (stc_num_ok (T := [_, _]) (by have h := HA.out; rw [List.append_assoc] at h; exact h) hil.out hwf.out (by decide) (by decide) hX).mono ?_; rintro e w1 ⟨rfl, H1⟩; have H1 := hid H1)
      | (go_at_call 23; refine (has_walk _ _).mono ?_; rintro e w3 ⟨rfl, rfl⟩))
    obtain ⟨T0, hT0⟩ : ∃ T0, rdLets b (hasS (kn : Int)).data.toList { CV.zero with kind := kn } q = T0 := ⟨_, rfl⟩
    have hZ1 : (T0.bind fun y => if y.1.check = 0 then some y else none) = Z := by
      have h1 := hZ.out
      rw [rdNum_ok hX] at h1
      rw [← hT0]
      exact h1
    have hq : RS.wf ⟨b, q, 0⟩ := ⟨(rdMost_p hX).2, hwf.out.mx⟩
    have hx3 := St.allocAt ((H1.out.alloc (.cells #[.int .i64 kn, .int .i64 0, .int .i64 0, .int .i64 0, .int .i64 0, .int .i64 0, .int .i64 0, .int .u64 0, .string ⟨#[]⟩, .slice none 0 0] 27)).new (A := Tx1 ⟨none, 0⟩ []) (F := []) (Fr.refl _ _) inferInstance ⟨rfl, .inl ⟨rfl, rfl⟩, rfl, Nat.zero_le _⟩ (by simp)) (.stringIter (hasS (kn : Int)) 0) (w1.heap.size + 1) (by simp)
    have H3 : St W ((w1.alloc (.cells #[.int .i64 kn, .int .i64 0, .int .i64 0, .int .i64 0, .int .i64 0, .int .i64 0, .int .i64 0, .int .u64 0, .string ⟨#[]⟩, .slice none 0 0] 27)).alloc (.stringIter (hasS (kn : Int)) 0)) (R.set i (RdT r ⟨b, q, 0⟩) ++ chT r w.heap.size (w.heap.size + 1) w1.heap.size (w1.heap.size + 1) { CV.zero with kind := kn } ⟨none, 0⟩ (hasS (kn : Int)) 0) := by
      simp only [List.append_assoc] at hx3
      exact hx3
    show Code.wp _ _ _ _ ((w1.alloc (.cells #[.int .i64 kn, .int .i64 0, .int .i64 0, .int .i64 0, .int .i64 0, .int .i64 0, .int .i64 0, .int .u64 0, .string ⟨#[]⟩, .slice none 0 0] 27)).alloc (.stringIter (hasS (kn : Int)) 0))
    generalize ((w1.alloc (.cells #[.int .i64 kn, .int .i64 0, .int .i64 0, .int .i64 0, .int .i64 0, .int .i64 0, .int .i64 0, .int .u64 0, .string ⟨#[]⟩, .slice none 0 0] 27)).alloc (.stringIter (hasS (kn : Int)) 0)) = w5 at H3 ⊢
    clear hx3 H1 HA
    generalize w1.heap.size + 1 = ib at H3 ⊢
    generalize w1.heap.size = cb at H3 ⊢
    generalize w.heap.size + 1 = zb at H3 ⊢
    generalize w.heap.size = rb at H3 ⊢
    have hX := hid hX
    have hZ1 := hid hZ1
    have hH3 := hid (And.intro H3 (And.intro hq hT0))
    clear H3 hT0 hq
    go_loopw [] (fun wr => ∃ (k : Nat) (c : CV) (t : TS) (p : Nat), k ≤ (hasS (kn : Int)).size ∧ St W wr (R.set i (RdT r ⟨b, p, 0⟩) ++ chT r rb zb cb ib c t (hasS (kn : Int)) k) ∧ RS.wf ⟨b, p, 0⟩ ∧ rdLets b ((hasS (kn : Int)).data.toList.drop k) c p = T0 ∧ ((∀ j, j < k → (hasS (kn : Int)).data.toList[j]? ≠ some 116) → c.texts = [] ∧ t = ⟨none, 0⟩)) (fun wr => match wr.heap[ib]? with | some (.stringIter s k) => (hasS (kn : Int)).size - k | _ => 0)
    case atStart => exact ⟨0, _, _, q, Nat.zero_le _, hH3.out.1, hH3.out.2.1, hH3.out.2.2, fun _ => ⟨rfl, rfl⟩⟩
    case round =>
      obtain ⟨k, c, t, p', hk, H, hp, hL, ht0⟩ := hrel
      obtain ⟨_, _, _, hit⟩ := H.ch
      by_cases hlt : k < (hasS (kn : Int)).size
      · obtain ⟨x, hx⟩ : ∃ x, (hasS (kn : Int)).data.toList[k]? = some x := ⟨_, List.getElem?_eq_getElem (show k < (hasS (kn : Int)).data.toList.length from hlt)⟩
        have HLT := hid hlt
        clear hk hlt
        rcases hasS_letter (kn : Int) x (List.mem_of_getElem? hx) with rfl | rfl | rfl | rfl | rfl | rfl | rfl
        ·
          have hNx : (Instr.next (.pointer (some ⟨ib, 0, none⟩)) true 0).run Try.prog wr = .ok (.tuple #[.bool true, .int .i64 k, .int .i32 110]) (wr.iterAt ib (hasS (kn : Int)) (k + 1)) := next_letter hit 110 hx (by decide)
          have H1 := H.chNext (k + 1)
          rw [rdLets_at hx] at hL
          generalize wr.iterAt ib (hasS (kn : Int)) (k + 1) = wi at hNx H1
          obtain ⟨b0, b1, b2, b3⟩ := H1.ch
          have k0 := cell_blk (i := 0) b0 rfl
          have hrc : rb ≠ cb := ne_of_elem b0 b2 (by decide)
          have HM := hid (And.intro hx (And.intro hit (And.intro hp ht0)))
          have H1 := hid H1
          clear hx hit hp ht0 H b0 b1 b2 b3
          rcases hX2 : rdMost b p' 1099511627776 21 with ce | ⟨n, q'⟩
          · have hL := hid (by simpa [rdLet, rdNum_no hX2] using hL : none = T0)
            go_wp2_with (go_at_call 35; refine (stc_num_no H1.out hil.out HM.out.2.2.1 (by decide) (by decide) hX2).mono ?_; rintro e w2 ⟨rfl, H2⟩)
            refine ⟨rfl, ChTo.pan ?_ ⟨rfl, H2⟩⟩
            have h1 := hZ1.out
            rw [← hL.out] at h1
            exact h1.symm
          · have hL := hid (by simpa [rdLet, rdNum_ok hX2] using hL : rdLets b ((hasS (kn : Int)).data.toList.drop (k + 1)) { c with n := n } q' = T0)
            go_wp2_with (first
              | (go_at_call 35; refine (stc_num_ok H1.out hil.out HM.out.2.2.1 (by decide) (by decide) hX2).mono ?_; rintro e w2 ⟨rfl, H2⟩; obtain ⟨b0, b1, b2, b3⟩ := H2.ch; have k0 := cell_blk (i := 0) b0 rfl; have kc := cell_blk (i := 1) b2 rfl; have kf := free_blk (i := 1) b2; have H2 := hid (H2.chSet 1 (.int .i64 n) { c with n := n } rfl rfl); clear b0 b1 b2 b3)
              | (go_at_call 53; refine (stc_sure H2.out hil.out rfl).mono ?_; rintro e w3 ⟨rfl, H4⟩))
            go_roundw
            case rel => exact ⟨k + 1, _, _, _, HLT.out, H4, ⟨(rdMost_p hX2).2, HM.out.2.2.1.mx⟩, hL.out, fun h => HM.out.2.2.2 (fun j hj => h j (by omega))⟩
            case measure =>
              obtain ⟨_, _, _, hi⟩ := (H4).ch
              have h1 := HLT.out
              simp only [hi, HM.out.2.1]
              omega
        ·
          have hNx : (Instr.next (.pointer (some ⟨ib, 0, none⟩)) true 0).run Try.prog wr = .ok (.tuple #[.bool true, .int .i64 k, .int .i32 106]) (wr.iterAt ib (hasS (kn : Int)) (k + 1)) := next_letter hit 106 hx (by decide)
          have H1 := H.chNext (k + 1)
          rw [rdLets_at hx] at hL
          generalize wr.iterAt ib (hasS (kn : Int)) (k + 1) = wi at hNx H1
          obtain ⟨b0, b1, b2, b3⟩ := H1.ch
          have k0 := cell_blk (i := 0) b0 rfl
          have hrc : rb ≠ cb := ne_of_elem b0 b2 (by decide)
          have HM := hid (And.intro hx (And.intro hit (And.intro hp ht0)))
          have H1 := hid H1
          clear hx hit hp ht0 H b0 b1 b2 b3
          rcases hX2 : rdMost b p' 8 21 with ce | ⟨n, q'⟩
          · have hL := hid (by simpa [rdLet, rdNum_no hX2] using hL : none = T0)
            go_wp2_with (go_at_call 35; refine (stc_num_no H1.out hil.out HM.out.2.2.1 (by decide) (by decide) hX2).mono ?_; rintro e w2 ⟨rfl, H2⟩)
            refine ⟨rfl, ChTo.pan ?_ ⟨rfl, H2⟩⟩
            have h1 := hZ1.out
            rw [← hL.out] at h1
            exact h1.symm
          · have hL := hid (by simpa [rdLet, rdNum_ok hX2] using hL : rdLets b ((hasS (kn : Int)).data.toList.drop (k + 1)) { c with job := n } q' = T0)
            go_wp2_with (first
              | (go_at_call 35; refine (stc_num_ok H1.out hil.out HM.out.2.2.1 (by decide) (by decide) hX2).mono ?_; rintro e w2 ⟨rfl, H2⟩; obtain ⟨b0, b1, b2, b3⟩ := H2.ch; have k0 := cell_blk (i := 0) b0 rfl; have kc := cell_blk (i := 2) b2 rfl; have kf := free_blk (i := 2) b2; have H2 := hid (H2.chSet 2 (.int .i64 n) { c with job := n } rfl rfl); clear b0 b1 b2 b3)
              | (go_at_call 53; refine (stc_sure H2.out hil.out rfl).mono ?_; rintro e w3 ⟨rfl, H4⟩))
            go_roundw
            case rel => exact ⟨k + 1, _, _, _, HLT.out, H4, ⟨(rdMost_p hX2).2, HM.out.2.2.1.mx⟩, hL.out, fun h => HM.out.2.2.2 (fun j hj => h j (by omega))⟩
            case measure =>
              obtain ⟨_, _, _, hi⟩ := (H4).ch
              have h1 := HLT.out
              simp only [hi, HM.out.2.1]
              omega
        ·
          have hNx : (Instr.next (.pointer (some ⟨ib, 0, none⟩)) true 0).run Try.prog wr = .ok (.tuple #[.bool true, .int .i64 k, .int .i32 112]) (wr.iterAt ib (hasS (kn : Int)) (k + 1)) := next_letter hit 112 hx (by decide)
          have H1 := H.chNext (k + 1)
          rw [rdLets_at hx] at hL
          generalize wr.iterAt ib (hasS (kn : Int)) (k + 1) = wi at hNx H1
          obtain ⟨b0, b1, b2, b3⟩ := H1.ch
          have k0 := cell_blk (i := 0) b0 rfl
          have hrc : rb ≠ cb := ne_of_elem b0 b2 (by decide)
          have HM := hid (And.intro hx (And.intro hit (And.intro hp ht0)))
          have H1 := hid H1
          clear hx hit hp ht0 H b0 b1 b2 b3
          have hTx := stc_Text H1.out hil.out HM.out.2.2.1 (m := 1024) (by decide)
          rcases hX2 : rdText b p' 1024 with ce | ⟨tx, q'⟩
          · have hL := hid (by simpa [rdLet, hX2] using hL : none = T0)
            simp only [hX2, RS.got, RS.face, if_true] at hTx
            have hce := rdText_err hX2
            have hTx := hid hTx
            go_wp2_with (first
              | (go_at_call 54; refine hTx.out.mono ?_; rintro e w2 ⟨rfl, H2⟩; obtain ⟨b0, b1, b2, b3⟩ := H2.ch; have k0 := cell_blk (i := 0) b0 rfl; have kc := cell_blk (i := 8) b2 rfl; have kf := free_blk (i := 8) b2; have H2 := hid (H2.chSet 8 (.string ⟨#[]⟩) { c with prog := ⟨#[]⟩ } rfl rfl); clear b0 b1 b2 b3)
              | (go_at_call 53; refine (stc_sure_no H2.out hil.out hce).mono ?_; rintro e w3 ⟨rfl, H4⟩))
            refine ⟨rfl, ChTo.pan ?_ ⟨rfl, H4⟩⟩
            have h1 := hZ1.out
            rw [← hL.out] at h1
            exact h1.symm
          · have hL := hid (by simpa [rdLet, hX2] using hL : rdLets b ((hasS (kn : Int)).data.toList.drop (k + 1)) { c with prog := tx } q' = T0)
            simp only [hX2, RS.got, RS.face, if_true] at hTx
            have hTx := hid hTx
            go_wp2_with (first
              | (go_at_call 54; refine hTx.out.mono ?_; rintro e w2 ⟨rfl, H2⟩; obtain ⟨b0, b1, b2, b3⟩ := H2.ch; have k0 := cell_blk (i := 0) b0 rfl; have kc := cell_blk (i := 8) b2 rfl; have kf := free_blk (i := 8) b2; have H2 := hid (H2.chSet 8 (.string tx) { c with prog := tx } rfl rfl); clear b0 b1 b2 b3)
              | (go_at_call 53; refine (stc_sure H2.out hil.out rfl).mono ?_; rintro e w3 ⟨rfl, H4⟩))
            go_roundw
            case rel => exact ⟨k + 1, _, _, _, HLT.out, H4, ⟨rdText_p hX2, HM.out.2.2.1.mx⟩, hL.out, fun h => HM.out.2.2.2 (fun j hj => h j (by omega))⟩
            case measure =>
              obtain ⟨_, _, _, hi⟩ := (H4).ch
              have h1 := HLT.out
              simp only [hi, HM.out.2.1]
              omega
        ·
          have hNx : (Instr.next (.pointer (some ⟨ib, 0, none⟩)) true 0).run Try.prog wr = .ok (.tuple #[.bool true, .int .i64 k, .int .i32 98]) (wr.iterAt ib (hasS (kn : Int)) (k + 1)) := next_letter hit 98 hx (by decide)
          have H1 := H.chNext (k + 1)
          rw [rdLets_at hx] at hL
          generalize wr.iterAt ib (hasS (kn : Int)) (k + 1) = wi at hNx H1
          obtain ⟨b0, b1, b2, b3⟩ := H1.ch
          have k0 := cell_blk (i := 0) b0 rfl
          have hrc : rb ≠ cb := ne_of_elem b0 b2 (by decide)
          have HM := hid (And.intro hx (And.intro hit (And.intro hp ht0)))
          have H1 := hid H1
          clear hx hit hp ht0 H b0 b1 b2 b3
          rcases hX2 : rdMost b p' 1099511627776 21 with ce | ⟨n, q'⟩
          · have hL := hid (by simpa [rdLet, rdNum_no hX2] using hL : none = T0)
            go_wp2_with (go_at_call 35; refine (stc_num_no H1.out hil.out HM.out.2.2.1 (by decide) (by decide) hX2).mono ?_; rintro e w2 ⟨rfl, H2⟩)
            refine ⟨rfl, ChTo.pan ?_ ⟨rfl, H2⟩⟩
            have h1 := hZ1.out
            rw [← hL.out] at h1
            exact h1.symm
          · have hL := hid (by simpa [rdLet, rdNum_ok hX2] using hL : rdLets b ((hasS (kn : Int)).data.toList.drop (k + 1)) { c with badge := n } q' = T0)
            go_wp2_with (first
              | (go_at_call 35; refine (stc_num_ok H1.out hil.out HM.out.2.2.1 (by decide) (by decide) hX2).mono ?_; rintro e w2 ⟨rfl, H2⟩; obtain ⟨b0, b1, b2, b3⟩ := H2.ch; have k0 := cell_blk (i := 0) b0 rfl; have kc := cell_blk (i := 3) b2 rfl; have kf := free_blk (i := 3) b2; have H2 := hid (H2.chSet 3 (.int .i64 n) { c with badge := n } rfl rfl); clear b0 b1 b2 b3)
              | (go_at_call 53; refine (stc_sure H2.out hil.out rfl).mono ?_; rintro e w3 ⟨rfl, H4⟩))
            go_roundw
            case rel => exact ⟨k + 1, _, _, _, HLT.out, H4, ⟨(rdMost_p hX2).2, HM.out.2.2.1.mx⟩, hL.out, fun h => HM.out.2.2.2 (fun j hj => h j (by omega))⟩
            case measure =>
              obtain ⟨_, _, _, hi⟩ := (H4).ch
              have h1 := HLT.out
              simp only [hi, HM.out.2.1]
              omega
        ·
          have hNx : (Instr.next (.pointer (some ⟨ib, 0, none⟩)) true 0).run Try.prog wr = .ok (.tuple #[.bool true, .int .i64 k, .int .i32 115]) (wr.iterAt ib (hasS (kn : Int)) (k + 1)) := next_letter hit 115 hx (by decide)
          have H1 := H.chNext (k + 1)
          rw [rdLets_at hx] at hL
          generalize wr.iterAt ib (hasS (kn : Int)) (k + 1) = wi at hNx H1
          obtain ⟨b0, b1, b2, b3⟩ := H1.ch
          have k0 := cell_blk (i := 0) b0 rfl
          have hrc : rb ≠ cb := ne_of_elem b0 b2 (by decide)
          have HM := hid (And.intro hx (And.intro hit (And.intro hp ht0)))
          have H1 := hid H1
          clear hx hit hp ht0 H b0 b1 b2 b3
          rcases hX2 : rdMost b p' 7 21 with ce | ⟨n, q'⟩
          · have hL := hid (by simpa [rdLet, rdNum_no hX2] using hL : none = T0)
            go_wp2_with (go_at_call 35; refine (stc_num_no H1.out hil.out HM.out.2.2.1 (by decide) (by decide) hX2).mono ?_; rintro e w2 ⟨rfl, H2⟩)
            refine ⟨rfl, ChTo.pan ?_ ⟨rfl, H2⟩⟩
            have h1 := hZ1.out
            rw [← hL.out] at h1
            exact h1.symm
          · have hq' : RS.wf ⟨b, q', 0⟩ := ⟨(rdMost_p hX2).2, HM.out.2.2.1.mx⟩
            rcases hX3 : rdMost b q' 1099511627776 21 with ce | ⟨n2, q2⟩
            · have hL := hid (by simpa [rdLet, rdNum_ok hX2, rdNum_no hX3] using hL : none = T0)
              go_wp2_with (first
                | (go_at_call 35; refine (stc_num_no H2.out hil.out hq' (by decide) (by decide) hX3).mono ?_; rintro e w3 ⟨rfl, H4⟩)
                | (go_at_call 35; refine (stc_num_ok H1.out hil.out HM.out.2.2.1 (by decide) (by decide) hX2).mono ?_; rintro e w2 ⟨rfl, H2⟩; obtain ⟨b0, b1, b2, b3⟩ := H2.ch; have k0 := cell_blk (i := 0) b0 rfl; have kc := cell_blk (i := 4) b2 rfl; have kf := free_blk (i := 4) b2; have H2 := hid (H2.chSet 4 (.int .i64 n) { c with slot := n } rfl rfl); clear b0 b1 b2 b3))
              refine ⟨rfl, ChTo.pan ?_ ⟨rfl, H4⟩⟩
              have h1 := hZ1.out
              rw [← hL.out] at h1
              exact h1.symm
            · have hL := hid (by simpa [rdLet, rdNum_ok hX2, rdNum_ok hX3] using hL : rdLets b ((hasS (kn : Int)).data.toList.drop (k + 1)) { c with slot := n, life := n2 } q2 = T0)
              go_wp2_with (first
                | (go_at_call 35; refine (stc_num_ok H2.out hil.out hq' (by decide) (by decide) hX3).mono ?_; rintro e w4 ⟨rfl, H5⟩; obtain ⟨b0, b1, b2, b3⟩ := H5.ch; have k1 := cell_blk (i := 0) b0 rfl; have kc1 := cell_blk (i := 5) b2 rfl; have kf1 := free_blk (i := 5) b2; have H5 := hid (H5.chSet 5 (.int .i64 n2) { c with slot := n, life := n2 } rfl rfl); clear b0 b1 b2 b3)
                | (go_at_call 35; refine (stc_num_ok H1.out hil.out HM.out.2.2.1 (by decide) (by decide) hX2).mono ?_; rintro e w2 ⟨rfl, H2⟩; obtain ⟨b0, b1, b2, b3⟩ := H2.ch; have k0 := cell_blk (i := 0) b0 rfl; have kc := cell_blk (i := 4) b2 rfl; have kf := free_blk (i := 4) b2; have H2 := hid (H2.chSet 4 (.int .i64 n) { c with slot := n } rfl rfl); clear b0 b1 b2 b3)
                | (go_at_call 53; refine (stc_sure H5.out hil.out rfl).mono ?_; rintro e w3 ⟨rfl, H4⟩))
              go_roundw
              case rel => exact ⟨k + 1, _, _, _, HLT.out, H4, ⟨(rdMost_p hX3).2, HM.out.2.2.1.mx⟩, hL.out, fun h => HM.out.2.2.2 (fun j hj => h j (by omega))⟩
              case measure =>
                obtain ⟨_, _, _, hi⟩ := (H4).ch
                have h1 := HLT.out
                simp only [hi, HM.out.2.1]
                omega
        ·
          have ht1 := ht0 (hasS_116 hx)
          have hno := hasS_116 hx
          obtain ⟨T1, hT1⟩ : ∃ T1, (match rdMost b p' 8 23 with | .ok (n, q) => rdTexts b n q [] | .error _ => none) = T1 := ⟨_, rfl⟩
          have hNx : (Instr.next (.pointer (some ⟨ib, 0, none⟩)) true 0).run Try.prog wr = .ok (.tuple #[.bool true, .int .i64 k, .int .i32 116]) (wr.iterAt ib (hasS (kn : Int)) (k + 1)) := next_letter hit 116 hx (by decide)
          have H1 := H.chNext (k + 1)
          rw [rdLets_at hx] at hL
          generalize wr.iterAt ib (hasS (kn : Int)) (k + 1) = wi at hNx H1
          obtain ⟨b0, b1, b2, b3⟩ := H1.ch
          have k0 := cell_blk (i := 0) b0 rfl
          have hrc : rb ≠ cb := ne_of_elem b0 b2 (by decide)
          have HM := hid (And.intro hx (And.intro hit (And.intro hp ht0)))
          have H1 := hid H1
          clear hx hit hp ht0 H b0 b1 b2 b3
          have HS := H1.out.txStart ht1.1 ht1.2
          have hLs := stc_List HS hil.out HM.out.2.2.1 (m := 8) (by decide)
          have hmx : max (0 : Int) 8 = 8 := by decide
          simp only [hmx] at hLs
          have hin : TxInv b T1 (RS.got ⟨b, p', 0⟩ 0 (rdMost b p' 8 23)) (RS.face ⟨b, p', 0⟩ (rdMost b p' 8 23)) [] ∧ RS.got ⟨b, p', 0⟩ 0 (rdMost b p' 8 23) ≤ 8 ∧ rdLet b c p' 116 = T1.map (fun x => ({ c with texts := x.1 }, x.2)) := by
            rw [← hT1]
            rcases hX2 : rdMost b p' 8 23 with ce | ⟨n, q⟩
            · have := rdMost_err hX2
              simp only [RS.got, RS.face, if_true]
              exact ⟨⟨rfl, ⟨HM.out.2.2.1.le, HM.out.2.2.1.mx⟩, by rw [if_neg (by show ¬ ce = 0; omega)]⟩, by omega, by simp [rdLet, hX2]⟩
            · have := rdMost_le hX2
              simp only [RS.got, RS.face, if_true]
              exact ⟨⟨rfl, ⟨(rdMost_p hX2).2, HM.out.2.2.1.mx⟩, by simp⟩, by omega, by simp [rdLet, hX2]⟩
          generalize RS.got ⟨b, p', 0⟩ 0 (rdMost b p' 8 23) = n1 at hin hLs
          generalize RS.face ⟨b, p', 0⟩ (rdMost b p' 8 23) = s1 at hin hLs
          obtain ⟨hti, hn8, hrl⟩ := hin
          rw [hrl] at hL
          have hL := hid hL
          have hti := hid hti
          have hLs := hid hLs
          clear HS hrl ht1 hmx
          go_wp2_with (go_at_call 55; refine hLs.out.mono ?_; rintro e w2 ⟨rfl, H2⟩; have H2 := hid H2)
          obtain ⟨wo, rfl⟩ : ∃ wo : World, wo = wr := ⟨_, rfl⟩
          clear hNx k0
          go_loopw [60] (fun iv wr => ∃ (j : Nat) (s : RS) (v : Value) (xs : List ByteArray), j ≤ n1 ∧ iv = .int .i64 j ∧ xs.length = j ∧ TxInv b T1 (n1 - j) s xs ∧ St W wr (R.set i (RdT r s) ++ txL r rb zb cb ib c v v j xs (hasS (kn : Int)) (k + 1))) (fun iv _ => n1 - (intOf iv).toNat)
          case atStart => exact ⟨0, s1, _, [], Nat.zero_le _, rfl, rfl, hti.out, H2.out⟩
          case round =>
            obtain ⟨j, s, v, xs, hj, rfl, hxl, hI, H⟩ := hrel
            obtain ⟨b0, b2, b3⟩ := H.txBlk
            have k0 := cell_blk (i := 0) b0 rfl
            have k9 : wr.cell? ⟨cb, 9, none⟩ = some v := cell_blk (i := 9) b2 rfl
            by_cases hjl : j < n1
            · have hTx := stc_Text H.drew hil.out hI.2.1 (m := 32) (by decide)
              have hI2 := TxInv.step (m := n1 - (j + 1)) (by rw [show n1 - (j + 1) + 1 = n1 - j by omega]; exact hI)
              generalize RS.got s ⟨#[]⟩ (rdText s.b s.at_ 32) = tx at hTx hI2
              generalize RS.face s (rdText s.b s.at_ 32) = s2 at hTx hI2
              obtain ⟨i0, hi, hz0, hz1, hz2⟩ := info_parts info_str
              have HI := hid (And.intro hi (And.intro hz0 (And.intro hz1 hz2)))
              have HJ := hid (And.intro hI2 hxl)
              have hTx := hid hTx
              clear hi hz0 hz1 hz2 hI hI2 H b0 b2 b3 hxl
              go_wp2_with fail
              go_region_law (first
                | (go_simp; go_at_call 54; refine hTx.out.mono ?_; rintro e w3 ⟨rfl, H3⟩; obtain ⟨b0, b2, b3⟩ := H3.txBlk; have e0 := cell_blk (i := 0) b0 rfl; have e9 : w3.cell? ⟨cb, 9, none⟩ = some v := cell_blk (i := 9) b2 rfl; have hl0 := lt_of_block b0; have hl2 := lt_of_block b2; have H3 := hid H3; clear b0 b2 b3)
                | (refine step_append_blk rfl (.tmp 63) (.tmp 67) 25 rfl 9 i0 (.string ByteArray.empty) 1 16 Try.underlying25 HI.out.1 HI.out.2.1 HI.out.2.2.1 HI.out.2.2.2 rfl (by decide) v j _ rfl (ownsRow_keep (S := []) H3.out.txApp.1 ((Fr.refl [] w3).alloc _) (by simp)) ⟨w3.heap.size, 0, none⟩ 1 1 [.string tx] rfl rfl (news_alloc w3 [.string tx] _) (by intro u hu; simp at hu; subst hu; rfl) (by unfold maxLen; omega) (by omega) ?_; intro v' w4 ho4 hF4 hb4 hn4; rw [show sL.cells xs ++ [Value.string tx] = sL.cells (xs ++ [tx]) from sL.snoc xs tx] at ho4; obtain ⟨g', cap', rfl, _⟩ := ownsRow_shape ho4 (by omega); have H4 := (H3.out.alloc_ (.cells #[.string tx] 9)).txApp.2 _ w4 (j + 1) (xs ++ [tx]) ho4 hF4 hb4; obtain ⟨b0, b2, b3⟩ := H4.txBlk; have m9 : w4.cell? ⟨cb, 9, none⟩ = some v := cell_blk (i := 9) b2 rfl; have n9 := free_blk (i := 9) b2; have H4 := hid H4; clear b0 b2 b3 ho4 hF4 hb4 hn4))
              all_goals go_wp2_with fail
              all_goals exact ⟨⟨j + 1, s2, _, xs ++ [tx], by omega, by go_num, by rw [List.length_append, HJ.out.2]; rfl, HJ.out.1, H4.out.txSet _⟩, by simp [intOf]; omega⟩
            · obtain rfl : j = n1 := by omega
              rw [Nat.sub_self] at hI
              obtain ⟨a, cap, rfl, hc1, hc2, hc3⟩ : ∃ a cap, v = .slice a j cap ∧ j ≤ cap ∧ cap ≤ maxLen ∧ (a = none → cap = 0) := by
                rcases ownsRow_one H.txApp.1 with ⟨h1, h2, _⟩ | ⟨g, cap, h1, h2, h3⟩
                · subst h2; exact ⟨none, 0, h1, Nat.le_refl _, Nat.zero_le _, fun _ => rfl⟩
                · exact ⟨_, cap, h1, h2, h3, fun h => by cases h⟩
              have f9 := free_blk (i := 9) b2
              have hcl := hid (clip_str wr a j cap hc1 hc2 hc3)
              have H5 := hid ((H.txSet (.slice a j j)).txEnd hxl (by unfold maxLen at *; omega))
              have hI := hid hI
              clear H b0 b2 b3 hc1 hc2 hc3 hxl
              obtain ⟨sb, sa, se⟩ := s
              by_cases he : se = 0
              · subst he
                go_wp2_with (first
                  | (go_at_call 56; refine hcl.out.mono ?_; rintro e w3 ⟨rfl, rfl⟩)
                  | (go_at_call 53; refine (stc_sure H5.out hil.out rfl).mono ?_; rintro e w3 ⟨rfl, H4⟩))
                obtain ⟨h1, h2, h3⟩ := hI.out
                simp only at h1
                subst h1
                rw [if_pos rfl] at h3
                have h4 := hL.out
                rw [← h3] at h4
                simp only [rdTexts, Option.map_some, Option.bind_some] at h4
                go_roundw
                case rel => exact ⟨k + 1, _, _, _, HLT.out, H4, h2, h4, fun h => absurd HM.out.1 (h k (by omega))⟩
                case measure =>
                  obtain ⟨_, _, _, hi⟩ := H4.ch
                  have h1 := HLT.out
                  simp only [hi, HM.out.2.1]
                  omega
              · go_wp2_with (first
                  | (go_at_call 56; refine hcl.out.mono ?_; rintro e w3 ⟨rfl, rfl⟩)
                  | (go_at_call 53; refine (stc_sure_no H5.out hil.out he).mono ?_; rintro e w3 ⟨rfl, H4⟩))
                refine ⟨rfl, ChTo.pan ?_ ⟨rfl, H4⟩⟩
                have h1 := hZ1.out
                have h2 := hI.out.2.2
                rw [if_neg he] at h2
                have h3 := hL.out
                rw [h2] at h3
                rw [← h3] at h1
                exact h1.symm
        ·
          have hNx : (Instr.next (.pointer (some ⟨ib, 0, none⟩)) true 0).run Try.prog wr = .ok (.tuple #[.bool true, .int .i64 k, .int .i32 114]) (wr.iterAt ib (hasS (kn : Int)) (k + 1)) := next_letter hit 114 hx (by decide)
          have H1 := H.chNext (k + 1)
          rw [rdLets_at hx] at hL
          generalize wr.iterAt ib (hasS (kn : Int)) (k + 1) = wi at hNx H1
          obtain ⟨b0, b1, b2, b3⟩ := H1.ch
          have k0 := cell_blk (i := 0) b0 rfl
          have hrc : rb ≠ cb := ne_of_elem b0 b2 (by decide)
          have HM := hid (And.intro hx (And.intro hit (And.intro hp ht0)))
          have H1 := hid H1
          clear hx hit hp ht0 H b0 b1 b2 b3
          rcases hX2 : rdMost b p' 7 21 with ce | ⟨n, q'⟩
          · have hL := hid (by simpa [rdLet, rdNum_no hX2] using hL : none = T0)
            go_wp2_with (go_at_call 35; refine (stc_num_no H1.out hil.out HM.out.2.2.1 (by decide) (by decide) hX2).mono ?_; rintro e w2 ⟨rfl, H2⟩)
            refine ⟨rfl, ChTo.pan ?_ ⟨rfl, H2⟩⟩
            have h1 := hZ1.out
            rw [← hL.out] at h1
            exact h1.symm
          · have hq' : RS.wf ⟨b, q', 0⟩ := ⟨(rdMost_p hX2).2, HM.out.2.2.1.mx⟩
            rcases hX3 : rdBits b q' with ce | ⟨n2, q2⟩
            · have hL := hid (by simpa [rdLet, rdNum_ok hX2, hX3] using hL : none = T0)
              have hce := rdBits_err hX3
              go_wp2_with (first
                | (go_at_call 35; refine (stc_num_ok H1.out hil.out HM.out.2.2.1 (by decide) (by decide) hX2).mono ?_; rintro e w2 ⟨rfl, H2⟩; obtain ⟨b0, b1, b2, b3⟩ := H2.ch; have k0 := cell_blk (i := 0) b0 rfl; have kc := cell_blk (i := 6) b2 rfl; have kf := free_blk (i := 6) b2; have H2 := hid (H2.chSet 6 (.int .i64 n) { c with code := n } rfl rfl); clear b0 b1 b2 b3)
                | (go_at_call 57; have hB := stc_Bits H2.out hil.out hq'; simp only [hX3, RS.got, RS.face, if_true] at hB; refine hB.mono ?_; rintro e w4 ⟨rfl, H5⟩; obtain ⟨b0, b1, b2, b3⟩ := H5.ch; have k1 := cell_blk (i := 0) b0 rfl; have kc1 := cell_blk (i := 7) b2 rfl; have kf1 := free_blk (i := 7) b2; have H5 := hid (H5.chSet 7 (.int .u64 ((0 : Nat) : Int)) { c with code := n, bits := 0 } rfl rfl); clear b0 b1 b2 b3)
                | (go_at_call 53; refine (stc_sure_no H5.out hil.out hce).mono ?_; rintro e w3 ⟨rfl, H4⟩))
              refine ⟨rfl, ChTo.pan ?_ ⟨rfl, H4⟩⟩
              have h1 := hZ1.out
              rw [← hL.out] at h1
              exact h1.symm
            · have hL := hid (by simpa [rdLet, rdNum_ok hX2, hX3] using hL : rdLets b ((hasS (kn : Int)).data.toList.drop (k + 1)) { c with code := n, bits := n2 } q2 = T0)
              go_wp2_with (first
                | (go_at_call 35; refine (stc_num_ok H1.out hil.out HM.out.2.2.1 (by decide) (by decide) hX2).mono ?_; rintro e w2 ⟨rfl, H2⟩; obtain ⟨b0, b1, b2, b3⟩ := H2.ch; have k0 := cell_blk (i := 0) b0 rfl; have kc := cell_blk (i := 6) b2 rfl; have kf := free_blk (i := 6) b2; have H2 := hid (H2.chSet 6 (.int .i64 n) { c with code := n } rfl rfl); clear b0 b1 b2 b3)
                | (go_at_call 57; have hB := stc_Bits H2.out hil.out hq'; simp only [hX3, RS.got, RS.face, if_true] at hB; refine hB.mono ?_; rintro e w4 ⟨rfl, H5⟩; obtain ⟨b0, b1, b2, b3⟩ := H5.ch; have k1 := cell_blk (i := 0) b0 rfl; have kc1 := cell_blk (i := 7) b2 rfl; have kf1 := free_blk (i := 7) b2; have H5 := hid (H5.chSet 7 (.int .u64 n2) { c with code := n, bits := n2 } rfl rfl); clear b0 b1 b2 b3)
                | (go_at_call 53; refine (stc_sure H5.out hil.out rfl).mono ?_; rintro e w3 ⟨rfl, H4⟩))
              go_roundw
              case rel => exact ⟨k + 1, _, _, _, HLT.out, H4, ⟨rdBits_p hX3, HM.out.2.2.1.mx⟩, hL.out, fun h => HM.out.2.2.2 (fun j hj => h j (by omega))⟩
              case measure =>
                obtain ⟨_, _, _, hi⟩ := (H4).ch
                have h1 := HLT.out
                simp only [hi, HM.out.2.1]
                omega
      · have hNx := Lib.run_next_end_at (P := Try.prog) wr ib (hasS (kn : Int)) k 0 hit hlt
        obtain ⟨b0, b1, b2, b3⟩ := H.ch
        have hke : k = (hasS (kn : Int)).size := by omega
        rw [hke, List.drop_of_length_le (show (hasS (kn : Int)).data.toList.length ≤ (hasS (kn : Int)).size from Nat.le_refl _)] at hL
        have hL := hid (show some (c, p') = T0 from hL)
        have hT := check_walk wr c t (H.tx ((R.set i (RdT r ⟨b, p', 0⟩)).length + 3) (by rw [get_behind]; rfl))
        have c0 : wr.cell? ⟨cb, 0, none⟩ = some (.int .i64 c.kind) := cell_blk (i := 0) b2 rfl
        have c1 : wr.cell? ⟨cb, 1, none⟩ = some (.int .i64 c.n) := cell_blk (i := 1) b2 rfl
        have c2 : wr.cell? ⟨cb, 2, none⟩ = some (.int .i64 c.job) := cell_blk (i := 2) b2 rfl
        have c3 : wr.cell? ⟨cb, 3, none⟩ = some (.int .i64 c.badge) := cell_blk (i := 3) b2 rfl
        have c4 : wr.cell? ⟨cb, 4, none⟩ = some (.int .i64 c.slot) := cell_blk (i := 4) b2 rfl
        have c5 : wr.cell? ⟨cb, 5, none⟩ = some (.int .i64 c.life) := cell_blk (i := 5) b2 rfl
        have c6 : wr.cell? ⟨cb, 6, none⟩ = some (.int .i64 c.code) := cell_blk (i := 6) b2 rfl
        have c7 : wr.cell? ⟨cb, 7, none⟩ = some (.int .u64 c.bits) := cell_blk (i := 7) b2 rfl
        have c8 : wr.cell? ⟨cb, 8, none⟩ = some (.string c.prog) := cell_blk (i := 8) b2 rfl
        have c9 : wr.cell? ⟨cb, 9, none⟩ = some (.slice t.a c.texts.length t.c) := cell_blk (i := 9) b2 rfl
        have HH := hid (And.intro H hp)
        have hT := hid hT
        clear hk hlt H hp ht0 hit b0 b1 b2 b3
        by_cases hc : c.check = 0
        · rw [hc] at hT
          go_wp2_with (go_at_call 11; refine hT.out.mono ?_; rintro e w2 ⟨rfl, hF⟩; have H2 := HH.out.1.same hF; obtain ⟨b0, b1, b2, b3⟩ := H2.ch
                       have d0 : w2.cell? ⟨cb, 0, none⟩ = some (.int .i64 c.kind) := cell_blk (i := 0) b2 rfl; have d1 : w2.cell? ⟨cb, 1, none⟩ = some (.int .i64 c.n) := cell_blk (i := 1) b2 rfl; have d2 : w2.cell? ⟨cb, 2, none⟩ = some (.int .i64 c.job) := cell_blk (i := 2) b2 rfl; have d3 : w2.cell? ⟨cb, 3, none⟩ = some (.int .i64 c.badge) := cell_blk (i := 3) b2 rfl; have d4 : w2.cell? ⟨cb, 4, none⟩ = some (.int .i64 c.slot) := cell_blk (i := 4) b2 rfl
                       have d5 : w2.cell? ⟨cb, 5, none⟩ = some (.int .i64 c.life) := cell_blk (i := 5) b2 rfl; have d6 : w2.cell? ⟨cb, 6, none⟩ = some (.int .i64 c.code) := cell_blk (i := 6) b2 rfl; have d7 : w2.cell? ⟨cb, 7, none⟩ = some (.int .u64 c.bits) := cell_blk (i := 7) b2 rfl; have d8 : w2.cell? ⟨cb, 8, none⟩ = some (.string c.prog) := cell_blk (i := 8) b2 rfl; have d9 : w2.cell? ⟨cb, 9, none⟩ = some (.slice t.a c.texts.length t.c) := cell_blk (i := 9) b2 rfl
                       have z0 : w2.cell? ⟨zb, 0, none⟩ = some (.int .i64 0) := cell_blk (i := 0) b1 rfl; have y0 := free_blk (i := 0) b1; have z1 : w2.cell? ⟨zb, 1, none⟩ = some (.int .i64 0) := cell_blk (i := 1) b1 rfl; have y1 := free_blk (i := 1) b1; have z2 : w2.cell? ⟨zb, 2, none⟩ = some (.int .i64 0) := cell_blk (i := 2) b1 rfl; have y2 := free_blk (i := 2) b1; have z3 : w2.cell? ⟨zb, 3, none⟩ = some (.int .i64 0) := cell_blk (i := 3) b1 rfl; have y3 := free_blk (i := 3) b1; have z4 : w2.cell? ⟨zb, 4, none⟩ = some (.int .i64 0) := cell_blk (i := 4) b1 rfl; have y4 := free_blk (i := 4) b1; have z5 : w2.cell? ⟨zb, 5, none⟩ = some (.int .i64 0) := cell_blk (i := 5) b1 rfl; have y5 := free_blk (i := 5) b1; have z6 : w2.cell? ⟨zb, 6, none⟩ = some (.int .i64 0) := cell_blk (i := 6) b1 rfl; have y6 := free_blk (i := 6) b1; have z7 : w2.cell? ⟨zb, 7, none⟩ = some (.int .u64 0) := cell_blk (i := 7) b1 rfl; have y7 := free_blk (i := 7) b1; have z8 : w2.cell? ⟨zb, 8, none⟩ = some (.string ⟨#[]⟩) := cell_blk (i := 8) b1 rfl; have y8 := free_blk (i := 8) b1; have z9 : w2.cell? ⟨zb, 9, none⟩ = some (.slice none 0 0) := cell_blk (i := 9) b1 rfl; have y9 := free_blk (i := 9) b1
                       have H2 := hid H2; clear b0 b1 b2 b3)
          have H5 := H2.out.store10 (.int .i64 c.kind) (.int .i64 c.n) (.int .i64 c.job) (.int .i64 c.badge) (.int .i64 c.slot) (.int .i64 c.life) (.int .i64 c.code) (.int .u64 c.bits) (.string c.prog) (.slice t.a c.texts.length t.c)
          generalize ((((((((((w2.setCell ⟨zb, 0, none⟩ (.int .i64 c.kind)).setCell ⟨zb, 1, none⟩ (.int .i64 c.n)).setCell ⟨zb, 2, none⟩ (.int .i64 c.job)).setCell ⟨zb, 3, none⟩ (.int .i64 c.badge)).setCell ⟨zb, 4, none⟩ (.int .i64 c.slot)).setCell ⟨zb, 5, none⟩ (.int .i64 c.life)).setCell ⟨zb, 6, none⟩ (.int .i64 c.code)).setCell ⟨zb, 7, none⟩ (.int .u64 c.bits)).setCell ⟨zb, 8, none⟩ (.string c.prog)).setCell ⟨zb, 9, none⟩ (.slice t.a c.texts.length t.c)) = w6 at H5 ⊢
          rw [List.set_append_right _ _ (by omega), Nat.add_sub_cancel_left] at H5
          have bz := H5.blk ((R.set i (RdT r ⟨b, p', 0⟩)).length + 1) (by rw [get_behind]; rfl)
          have q0 : w6.cell? ⟨zb, 0, none⟩ = some (.int .i64 c.kind) := cell_blk (i := 0) bz rfl
          have q1 : w6.cell? ⟨zb, 1, none⟩ = some (.int .i64 c.n) := cell_blk (i := 1) bz rfl
          have q2 : w6.cell? ⟨zb, 2, none⟩ = some (.int .i64 c.job) := cell_blk (i := 2) bz rfl
          have q3 : w6.cell? ⟨zb, 3, none⟩ = some (.int .i64 c.badge) := cell_blk (i := 3) bz rfl
          have q4 : w6.cell? ⟨zb, 4, none⟩ = some (.int .i64 c.slot) := cell_blk (i := 4) bz rfl
          have q5 : w6.cell? ⟨zb, 5, none⟩ = some (.int .i64 c.life) := cell_blk (i := 5) bz rfl
          have q6 : w6.cell? ⟨zb, 6, none⟩ = some (.int .i64 c.code) := cell_blk (i := 6) bz rfl
          have q7 : w6.cell? ⟨zb, 7, none⟩ = some (.int .u64 c.bits) := cell_blk (i := 7) bz rfl
          have q8 : w6.cell? ⟨zb, 8, none⟩ = some (.string c.prog) := cell_blk (i := 8) bz rfl
          have q9 : w6.cell? ⟨zb, 9, none⟩ = some (.slice t.a c.texts.length t.c) := cell_blk (i := 9) bz rfl
          have hZe : Z = some (c, p') := by
            have h1 := hZ1.out
            rw [← hL.out] at h1
            simp only [Option.bind_some] at h1
            rw [if_pos hc] at h1
            exact h1.symm
          rw [hZe]
          refine ⟨rfl, .agg (c.f t).toArray, by simp [results, Try.results36, go_sem, q0, q1, q2, q3, q4, q5, q6, q7, q8, q9, CV.f], t, rfl, H5.keepOne 3 rfl⟩
        · generalize hy : c.check = y at hT hc
          go_wp2_with (go_at_call 11; refine hT.out.mono ?_; rintro e w2 ⟨rfl, hF⟩; have H2 := hid (HH.out.1.same hF))
          refine ⟨rfl, ChTo.pan ?_ ⟨rfl, _, H2.out.drop⟩⟩
          have h1 := hZ1.out
          rw [← hL.out] at h1
          simp only [Option.bind_some] at h1
          rw [if_neg (by rw [hy]; exact hc)] at h1
          exact h1.symm
end
end Go.Proofs.Ytdobbmlaokolmaa
