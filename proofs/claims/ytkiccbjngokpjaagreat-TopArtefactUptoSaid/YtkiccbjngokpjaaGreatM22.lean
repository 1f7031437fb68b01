/-
  Merged, in build order: Ts0 Ts1 Ts2 Ts3 Ts4.
-/
import Derived.Test.YtkiccbjngokpjaaGreatM16
import Derived.Test.YtkiccbjngokpjaaGreatM18
import Derived.Test.YtkiccbjngokpjaaGreatM21
/-
  the streams of top: messages that may be; writer, say.
-/
namespace Go.Proofs.YtkiccbjngokpjaaGreat
open Go.RowKit
set_option linter.unusedVariables false
set_option linter.unusedSimpArgs false

/-! ### Messages -/
def mChunk (b : Int) (i : Nat) (t : ByteArray) : MV := { MV.of 5 with bad := b, idx := i, text := t }
def mAck (b : Int) (c : Nat) : MV := { MV.of 14 with bad := b, cnt := c }
theorem mChunk_ok {b : Int} {i : Nat} {t : ByteArray} (hb1 : 1 ≤ b) (hb2 : b ≤ 1099511627776) (hi : i ≤ 31) (ht : t.size ≤ 32) : (mChunk b i t).Ok := by
  have hk : (mChunk b i t).kind = 5 := rfl
  refine ⟨by rw [hk]; decide, by rw [hk]; decide, rfl, fun h => absurd (hk.symm.trans h.1) (by decide), fun f hf => ?_⟩
  have hl : fdsOf (mChunk b i t).kind = [fB, fI 31, fL] := rfl
  rw [hl] at hf
  simp at hf
  rcases hf with rfl | rfl | rfl
  · simp [Fd.may, MV.int, mChunk, MV.of]; omega
  · simp [Fd.may, MV.int, mChunk, MV.of]; omega
  · simp [Fd.may, MV.str, mChunk, MV.of]; omega
theorem mAck_ok {b : Int} {c : Nat} (hb1 : 1 ≤ b) (hb2 : b ≤ 1099511627776) (hc : c ≤ 32) : (mAck b c).Ok := by
  have hk : (mAck b c).kind = 14 := rfl
  refine ⟨by rw [hk]; decide, by rw [hk]; decide, rfl, fun h => absurd (hk.symm.trans h.1) (by decide), fun f hf => ?_⟩
  have hl : fdsOf (mAck b c).kind = [fB, fC 32] := rfl
  rw [hl] at hf
  simp at hf
  rcases hf with rfl | rfl
  · simp [Fd.may, MV.int, mAck, MV.of]; omega
  · simp [Fd.may, MV.int, mAck, MV.of]; omega

/-! ### A stream -/
abbrev stO (s p k : Value) (N : Nat) (win res bd : Int) (pv sv : Value) : Obj := .cells #[s, p, k, ptr N, .int .i64 win, .int .i64 res, .int .i64 bd, pv, sv, .bool false] 34

section
variable {W : Base} {w : World} {R : List Thing}
theorem writer_blk {X : Nat} {s p k pv sv : Value} {N : Nat} {win res bd : Int} (hb : w.heap[X]? = some (stO s p k N win res bd pv sv)) :
    Calls Tryz.prog 42 #[ptr X] w fun e w' => e = .returned (adV 2 bd) ∧ Fr [] w w' := by
  have x6 := cell_blk (i := 6) hb rfl
  have hg := lt_of_block hb
  clear hb
  go_enter Tryz.func42, Tryz.ntmps42
  go_wp2_with fail
  refine bodyPost_ret (v := adV 2 bd) ?_ rfl ⟨rfl, (Fr.refl _ _).alloc _⟩
  simp [results, Tryz.results42, go_sem]

set_option maxHeartbeats 3200000 in
set_option maxRecDepth 100000 in
theorem st_say (H : St W w R) (i j : Nat) {X : Nat} {s p k pv sv : Value} {N : Nat} {win res bd : Int} (hi : R[i]? = some (BlkT X (stO s p k N win res bd pv sv))) {bag : List Dg} {sn : Int} (hj : R[j]? = some (NtT N bag sn)) (hbl : bag.length ≤ 1073741824)
    (fn fl tn tl : Int) (m : MV) (hm : m.Ok) :
    Calls Tryz.prog 41 #[ptr X, adV fn fl, adV tn tl, .agg m.f.toArray] w fun e w' => e = .returned (.tuple #[]) ∧ St W w' (R.set j (NtT N (bag ++ [⟨nextN sn, fn, fl, tn, tl, m.enc⟩]) (nextN sn))) := by
  have H3 := ((H.alloc (ads fn fl)).allocAt (ads tn tl) (w.heap.size + 1) (by simp)).allocAt (mO m) (w.heap.size + 2) (by simp)
  simp only [List.append_assoc, List.cons_append, List.nil_append] at H3
  have hil := lt_of_get hi
  have hjl := hid (lt_of_get hj)
  have hj' : (R ++ [BlkT w.heap.size (ads fn fl), BlkT (w.heap.size + 1) (ads tn tl), BlkT (w.heap.size + 2) (mO m)])[j]? = some (NtT N bag sn) := by rw [List.getElem?_append_left hjl.out]; exact hj
  have HE := hid (st_wencode H3 m hm)
  have HS := hid (show ∀ (wx : World), St W wx (R ++ [BlkT w.heap.size (ads fn fl), BlkT (w.heap.size + 1) (ads tn tl), BlkT (w.heap.size + 2) (mO m)]) → wx.cell? ⟨X, 3, none⟩ = some (ptr N) ∧ (wx.cell? ⟨w.heap.size, 0, none⟩ = some (.int .i64 fn) ∧ wx.cell? ⟨w.heap.size, 1, none⟩ = some (.int .i64 fl)) ∧ wx.cell? ⟨w.heap.size + 1, 0, none⟩ = some (.int .i64 tn) ∧ wx.cell? ⟨w.heap.size + 1, 1, none⟩ = some (.int .i64 tl) from fun wx h => by
    have b0 := h.blk i (by rw [List.getElem?_append_left hil]; exact hi)
    have b1 := h.blk _ (get_behind _ _ 0)
    have b2 := h.blk _ (get_behind _ _ 1)
    exact ⟨cell_blk (i := 3) b0 rfl, ⟨cell_blk (i := 0) b1 rfl, cell_blk (i := 1) b1 rfl⟩, cell_blk (i := 0) b2 rfl, cell_blk (i := 1) b2 rfl⟩)
  have HN := hid (fun (wx : World) (h : St W wx (R ++ [BlkT w.heap.size (ads fn fl), BlkT (w.heap.size + 1) (ads tn tl), BlkT (w.heap.size + 2) (mO m)])) => st_nsend h j hj' fn fl tn tl m.enc hbl)
  have b3 := H3.blk _ (get_behind _ _ 2)
  obtain ⟨m0, m1, m2, m3, m4, m5, m6, m7, m8, m9, m10⟩ := msg_cells b3
  clear H H3 hi hj hil hj' hbl hm b3
  dsimp only [MV.f] at HE ⊢
  go_enter Tryz.func41, Tryz.ntmps41
  go_wp2_with fail
  refine HE.out.mono ?_
  rintro e w1 ⟨rfl, H4⟩
  clear HE m0 m1 m2 m3 m4 m5 m6 m7 m8 m9 m10
  have H4 := hid H4
  go_wp2_with fail
  refine wp_region_U (S := fun wx : World => wx.cell? ⟨X, 3, none⟩ = some (ptr N) ∧ (wx.cell? ⟨w.heap.size, 0, none⟩ = some (.int .i64 fn) ∧ wx.cell? ⟨w.heap.size, 1, none⟩ = some (.int .i64 fl)) ∧ wx.cell? ⟨w.heap.size + 1, 0, none⟩ = some (.int .i64 tn) ∧ wx.cell? ⟨w.heap.size + 1, 1, none⟩ = some (.int .i64 tl)) 7 (by kernel_rfl) (HS.out _ (H4.out.same ((Fr.refl _ _).drew))) (fun hHeld => ?_)
  refine takeU (i := 0) (d := 20) (v := ?_) rfl rfl (by kernel_rfl) (by kernel_rfl) (by kernel_rfl) (by kernel_rfl) (by kernel_rfl) (fun _ _ _ h => h) (Or.inl ⟨by rfl, ?_⟩) hHeld ?_
  rotate_left
  · intro wq hSw; (try dsimp only at hSw); go_simp; all_goals (with_reducible rfl)
  simp only [Act.put, List.setIfInBounds_toArray, List.set_cons_zero, List.set_cons_succ]
  refine takeU (i := 1) (d := 21) (v := ?_) rfl rfl (by kernel_rfl) (by kernel_rfl) (by kernel_rfl) (by kernel_rfl) (by kernel_rfl) (fun _ _ _ h => h) (Or.inl ⟨by rfl, ?_⟩) hHeld ?_
  rotate_left
  · intro wq hSw; (try dsimp only at hSw); go_simp; all_goals (with_reducible rfl)
  simp only [Act.put, List.setIfInBounds_toArray, List.set_cons_zero, List.set_cons_succ]
  refine takeU (i := 2) (d := 22) (v := ?_) rfl rfl (by kernel_rfl) (by kernel_rfl) (by kernel_rfl) (by kernel_rfl) (by kernel_rfl) (fun _ _ _ h => h) (Or.inl ⟨by rfl, ?_⟩) hHeld ?_
  rotate_left
  · intro wq hSw; (try dsimp only at hSw); go_simp; all_goals (with_reducible rfl)
  simp only [Act.put, List.setIfInBounds_toArray, List.set_cons_zero, List.set_cons_succ]
  refine takeU (i := 3) (d := 23) (v := ?_) rfl rfl (by kernel_rfl) (by kernel_rfl) (by kernel_rfl) (by kernel_rfl) (by kernel_rfl) (fun _ _ _ h => h) (Or.inl ⟨by rfl, ?_⟩) hHeld ?_
  rotate_left
  · intro wq hSw; (try dsimp only at hSw); go_simp; all_goals (with_reducible rfl)
  simp only [Act.put, List.setIfInBounds_toArray, List.set_cons_zero, List.set_cons_succ]
  refine takeU (i := 4) (d := 24) (v := ?_) rfl rfl (by kernel_rfl) (by kernel_rfl) (by kernel_rfl) (by kernel_rfl) (by kernel_rfl) (fun _ _ _ h => h) (Or.inl ⟨by rfl, ?_⟩) hHeld ?_
  rotate_left
  · intro wq hSw; (try dsimp only at hSw); go_simp; all_goals (with_reducible rfl)
  simp only [Act.put, List.setIfInBounds_toArray, List.set_cons_zero, List.set_cons_succ]
  refine takeU (i := 5) (d := 25) (v := ?_) rfl rfl (by kernel_rfl) (by kernel_rfl) (by kernel_rfl) (by kernel_rfl) (by kernel_rfl) (fun _ _ _ h => h) (Or.inl ⟨by rfl, ?_⟩) hHeld ?_
  rotate_left
  · intro wq hSw; (try dsimp only at hSw); go_simp; all_goals (with_reducible rfl)
  simp only [Act.put, List.setIfInBounds_toArray, List.set_cons_zero, List.set_cons_succ]
  refine takeU (i := 6) (d := 26) (v := ?_) rfl rfl (by kernel_rfl) (by kernel_rfl) (by kernel_rfl) (by kernel_rfl) (by kernel_rfl) (fun _ _ _ h => h) (Or.inl ⟨by rfl, ?_⟩) hHeld ?_
  rotate_left
  · intro wq hSw; (try dsimp only at hSw); go_simp; all_goals (with_reducible rfl)
  simp only [Act.put, List.setIfInBounds_toArray, List.set_cons_zero, List.set_cons_succ]
  refine wpAnyU_ready (rs := [7]) (by kernel_rfl) (by simp) ?_
  refine AllReadyU.cons rfl (fun K hK => ?_) AllReadyU.nil
  go_simp
  go_at_call 21
  refine (HN.out _ (H4.out.same ((Fr.refl _ _).drew))).mono ?_
  rintro e w2 ⟨rfl, H5⟩
  have H5 := hid H5
  go_simp
  refine hK.out _ _ (fun h => absurd rfl h) (fun _ => ?_)
  clear hK K
  refine wpAnyU_done (by kernel_rfl) ?_ _
  clear hHeld
  go_wp2_with fail
  go_end0
  have h := H5.out
  rw [List.set_append_left _ _ hjl.out] at h
  exact ⟨rfl, h.drop⟩
end

end Go.Proofs.YtkiccbjngokpjaaGreat

/-
  the streams of top: says (a log).
-/
namespace Go.Proofs.YtkiccbjngokpjaaGreat
open Go.RowKit
set_option linter.unusedVariables false
set_option linter.unusedSimpArgs false

def pkDg (p : Int × Pkt) : Dg := match p.2 with
  | .chunk i t => ⟨p.1, 2, 1, 0, 0, (mChunk 1 i t).enc⟩
  | .ack c => ⟨p.1, 0, 0, 2, 1, (mAck 1 c).enc⟩
abbrev smO (S P K N : Nat) (x : Sm) (pv sv : Value) : Obj := stO (ptr S) (ptr P) (ptr K) N x.s.win x.s.res 1 pv sv
abbrev smL (X S P K N : Nat) (x : Sm) (pv sv : Value) : List Thing :=
  [BlkT X (smO S P K N x pv sv), SnT S x.s, WnT P x.w, NtT N (x.bag.map pkDg) x.sent, RowT 9 1 pv x.s.texts.length (txC x.s.texts), RowT 9 1 sv x.stored.length (txC x.stored)]

theorem Sm.sendAll_snoc (x : Sm) (l : List (Nat × ByteArray)) (q : Nat × ByteArray) : x.sendAll (l ++ [q]) = (x.sendAll l).send (.chunk q.1 q.2) := by
  induction l generalizing x with
  | nil => rfl
  | cons p l ih => exact ih _
theorem map_send (x : Sm) (p : Pkt) : (x.send p).bag.map pkDg = x.bag.map pkDg ++ [pkDg (nextN x.sent, p)] := by simp [Sm.send]
theorem Sm.sendAll_win (x : Sm) (l : List (Nat × ByteArray)) : (x.sendAll l).s = x.s := (Sm.sendAll_is x l).1

section
variable {W : Base} {w : World}
/-- A datagram more: the things stand so. -/
theorem sm_send {X S P K N : Nat} {x : Sm} {pv sv : Value} {d : Dg} {p : Pkt} (hd : d = pkDg (nextN x.sent, p)) (H : St W w ((smL X S P K N x pv sv).set 3 (NtT N (x.bag.map pkDg ++ [d]) (nextN x.sent)))) : St W w (smL X S P K N (x.send p) pv sv) := by
  subst hd
  have h := map_send x p
  have h2 : St W w [BlkT X (smO S P K N x pv sv), SnT S x.s, WnT P x.w, NtT N (x.bag.map pkDg ++ [pkDg (nextN x.sent, p)]) (nextN x.sent), RowT 9 1 pv x.s.texts.length (txC x.s.texts), RowT 9 1 sv x.stored.length (txC x.stored)] := H
  rw [← h] at h2
  exact h2

set_option maxHeartbeats 6400000 in
set_option maxRecDepth 100000 in
theorem st_says {X S P K N : Nat} {x : Sm} {pv sv : Value} (H : St W w (smL X S P K N x pv sv)) (hx : x.ok) (hbl : x.bag.length ≤ 536870912) :
    Calls Tryz.prog 26 #[ptr X] w fun e w' => e = .returned (.tuple #[]) ∧ St W w' (smL X S P K N x.says pv sv) := by
  have HD := hid (st_sdue H 1 rfl (Nat.le_trans hx.d1 (Nat.le_trans hx.d2 hx.d3)) hx.d4 hx.w8)
  have x0 := cell_blk (i := 0) (H.blk 0 rfl) rfl
  have HI := hid (show ∀ p ∈ x.s.items, p.1 ≤ 31 ∧ p.2.size ≤ 32 from fun p hp => by
    obtain ⟨h1, h2, h3⟩ := Sn.due_said hx.d3
    obtain ⟨h4, h5⟩ := h3 p hp
    have := hx.d4
    exact ⟨by omega, hx.tx _ (List.mem_of_getElem? h5)⟩)
  have HB := hid (And.intro hbl (Nat.le_trans x.s.items_len hx.w8))
  clear H hx hbl
  go_enter Tryz.func26, Tryz.ntmps26
  go_wp2_with fail
  refine HD.out.mono ?_
  rintro e w1 ⟨v, rfl, H1⟩
  clear HD x0
  obtain ⟨a, c, rfl, _, _⟩ := row_slice (H1.row _ (get_behind _ _ 0))
  obtain ⟨x1, hx1⟩ : ∃ x1 : Sm, x1 = { x with s := x.s.due } := ⟨_, rfl⟩
  obtain ⟨n, hn⟩ : ∃ n, x.s.items.length = n := ⟨_, rfl⟩
  have hwr : x.s.due.texts = x.s.texts ∧ x.s.due.win = x.s.win ∧ x.s.due.res = x.s.res := ⟨(Sn.due_texts x.s).1, (Sn.due_texts x.s).2.2⟩
  have H2 : St W w1 (smL X S P K N (x1.sendAll (x.s.items.take 0)) pv sv ++ [RowT 111 2 (.slice a n c) x.s.items.length (iL.cells x.s.items)]) := by
    have h : St W w1 ([BlkT X (smO S P K N x pv sv), SnT S x.s.due, WnT P x.w, NtT N (x.bag.map pkDg) x.sent, RowT 9 1 pv x.s.texts.length (txC x.s.texts), RowT 9 1 sv x.stored.length (txC x.stored)] ++ [RowT 111 2 (.slice a x.s.items.length c) x.s.items.length (iL.cells x.s.items)]) := H1
    rw [hn] at h ⊢
    subst hx1
    show St W w1 ([BlkT X (stO (ptr S) (ptr P) (ptr K) N x.s.due.win x.s.due.res 1 pv sv), SnT S x.s.due, WnT P x.w, NtT N (x.bag.map pkDg) x.sent, RowT 9 1 pv x.s.due.texts.length (txC x.s.due.texts), RowT 9 1 sv x.stored.length (txC x.stored)] ++ [_])
    rw [hwr.1, hwr.2.1, hwr.2.2]
    exact h
  have H2 := hid H2
  have HX1 := hid hx1
  have HN := hid hn
  rw [hn]
  clear H1 hx1 hwr hn
  go_wp2_with fail
  go_loopw [3] (fun iv wr => ∃ q : Nat, q ≤ n ∧ iv = .int .i64 q ∧ Hid (St W wr (smL X S P K N (x1.sendAll (x.s.items.take q)) pv sv ++ [RowT 111 2 (.slice a n c) x.s.items.length (iL.cells x.s.items)]))) (fun iv _ => n - (intOf iv).toNat)
  case atStart => exact ⟨0, Nat.zero_le _, rfl, H2⟩
  case round =>
    obtain ⟨q, hq, rfl, HQ⟩ := hrel
    by_cases hlt : q < n
    · obtain ⟨⟨ix, t⟩, hit⟩ : ∃ it, x.s.items[q]? = some it := ⟨_, List.getElem?_eq_getElem (by rw [HN.out]; exact hlt)⟩
      have hmem := HI.out _ (List.mem_of_getElem? hit)
      have hr := HQ.out.row _ (get_behind _ _ 0)
      rw [HN.out] at hr
      obtain ⟨g, cap, hsl, _, _⟩ := ownsRow_shape hr (by omega)
      simp only [Value.slice.injEq, true_and] at hsl
      obtain ⟨rfl, rfl⟩ := hsl
      have hnth : iL.nth x.s.items q = (ix, t) := by unfold Lay.nth; rw [List.getD_eq_getElem?_getD, hit]; rfl
      have hcell : ∀ r u, r < 2 → (iL.f (ix, t))[r]? = some u → (iL.cells x.s.items)[q * 2 + r]? = some u := fun r u hr2 hu => by
        have h1 := iL.get x.s.items (q * 2 + r) (by have := HN.out; show q * 2 + r < x.s.items.length * 2; omega)
        rw [h1]
        have h2 := iL.at_add x.s.items q r hr2
        rw [hnth] at h2
        rw [show iL.sz = 2 from rfl] at h2
        rw [h2, List.getD_eq_getElem?_getD, hu]
        rfl
      have y0 : wr.cell? ⟨g, q * 2, none⟩ = some (.int .i64 ix) := (ownsRow_cell hr _ (hcell 0 _ (by decide) rfl)).1
      have y1 : wr.cell? ⟨g, q * 2 + 1, none⟩ = some (.string t) := (ownsRow_cell hr _ (hcell 1 _ (by decide) rfl)).1
      have hbX := HQ.out.blk 0 rfl
      have HF := hid (show ∀ wx, Fr [] wr wx → wx.cell? ⟨X, 6, none⟩ = some (.int .i64 1) ∧ wx.cell? ⟨g, q * 2, none⟩ = some (.int .i64 ix) ∧ wx.cell? ⟨g, q * 2 + 1, none⟩ = some (.string t) from fun wx hF => ⟨cell_blk (i := 6) (hF.keep hbX (by simp)) rfl, hF.cell0 y0, hF.cell0 y1⟩)
      have HWr := hid (show ∀ wx, Fr [] wr wx → Calls Tryz.prog 42 #[ptr X] wx fun e w' => e = .returned (adV 2 1) ∧ Fr [] wx w' from fun wx hF => writer_blk (hF.keep hbX (by simp)))
      have HSy := hid (show ∀ wx, Fr [] wr wx → Calls Tryz.prog 41 #[ptr X, adV 2 1, adV 0 0, .agg (mChunk 1 ix t).f.toArray] wx fun e w' => e = .returned (.tuple #[]) ∧ St W w' (smL X S P K N (x1.sendAll (x.s.items.take (q + 1))) pv sv ++ [RowT 111 2 (.slice (some ⟨g, 0, none⟩) n c) x.s.items.length (iL.cells x.s.items)]) from fun wx hF => by
        have hl : (x1.sendAll (x.s.items.take q)).bag.length ≤ 536870920 := by
          rw [(Sm.sendAll_is x1 _).2.2.2.2.2.2, HX1.out]
          have h1 := HB.out.1
          have h2 := HB.out.2
          rw [List.length_take]
          show x.bag.length + min q x.s.items.length ≤ 536870920
          omega
        refine (st_say (HQ.out.same hF) 0 3 (s := ptr S) (p := ptr P) (k := ptr K) rfl (bag := (x1.sendAll (x.s.items.take q)).bag.map pkDg) rfl (by rw [List.length_map]; omega) 2 1 0 0 (mChunk 1 ix t) (mChunk_ok (by omega) (by omega) hmem.1 hmem.2)).mono ?_
        rintro e w' ⟨rfl, h⟩
        refine ⟨rfl, ?_⟩
        have ht : x.s.items.take (q + 1) = x.s.items.take q ++ [(ix, t)] := by rw [List.take_add_one, hit]; rfl
        rw [ht, Sm.sendAll_snoc]
        have h9 := map_send (x1.sendAll (x.s.items.take q)) (.chunk ix t)
        show St W w' ([_, _, _, NtT N (((x1.sendAll (x.s.items.take q)).send (.chunk ix t)).bag.map pkDg) _, _, _] ++ [_])
        rw [h9]
        exact h)
      have HL := hid (And.intro hlt hq)
      have hlt2 : (q : Int) < n := by omega
      have hcp : (n : Int) ≤ 8 := by have := HB.out.2; have := HN.out; omega
      have x1c := cell_blk (i := 1) hbX rfl
      clear hit hmem hr hnth hcell hbX hlt hq y0 y1 HQ
      go_wp2_with fail
      refine wp_region_U (S := fun wx : World => wx.cell? ⟨X, 6, none⟩ = some (.int .i64 1) ∧ wx.cell? ⟨g, q * 2, none⟩ = some (.int .i64 ix) ∧ wx.cell? ⟨g, q * 2 + 1, none⟩ = some (.string t)) 19 (by kernel_rfl) (HF.out _ ((Fr.refl _ _).drew)) (fun hHeld => ?_)
      refine takeU (i := 0) (d := 40) (v := ?_) rfl rfl (by kernel_rfl) (by kernel_rfl) (by kernel_rfl) (by kernel_rfl) (by kernel_rfl) (fun _ _ _ h => h) (Or.inl ⟨by rfl, ?_⟩) hHeld ?_
      rotate_left
      · intro wq hSw; (try dsimp only at hSw); go_simp; all_goals (with_reducible rfl)
      simp only [Act.put, List.setIfInBounds_toArray, List.set_cons_zero, List.set_cons_succ]
      refine takeU (i := 1) (d := 41) (v := ?_) rfl rfl (by kernel_rfl) (by kernel_rfl) (by kernel_rfl) (by kernel_rfl) (by kernel_rfl) (fun _ _ _ h => h) (Or.inl ⟨by rfl, ?_⟩) hHeld ?_
      rotate_left
      · intro wq hSw; (try dsimp only at hSw); go_simp; all_goals (with_reducible rfl)
      simp only [Act.put, List.setIfInBounds_toArray, List.set_cons_zero, List.set_cons_succ]
      refine takeU (i := 3) (d := 43) (v := ?_) rfl rfl (by kernel_rfl) (by kernel_rfl) (by kernel_rfl) (by kernel_rfl) (by kernel_rfl) (fun _ _ _ h => h) (Or.inl ⟨by rfl, ?_⟩) hHeld ?_
      rotate_left
      · intro wq hSw; (try dsimp only at hSw); go_simp; all_goals (with_reducible rfl)
      simp only [Act.put, List.setIfInBounds_toArray, List.set_cons_zero, List.set_cons_succ]
      refine takeU (i := 4) (d := 44) (v := ?_) rfl rfl (by kernel_rfl) (by kernel_rfl) (by kernel_rfl) (by kernel_rfl) (by kernel_rfl) (fun _ _ _ h => h) (Or.inl ⟨by rfl, ?_⟩) hHeld ?_
      rotate_left
      · intro wq hSw; (try dsimp only at hSw); go_simp; all_goals (with_reducible rfl)
      simp only [Act.put, List.setIfInBounds_toArray, List.set_cons_zero, List.set_cons_succ]
      refine takeU (i := 5) (d := 45) (v := ?_) rfl rfl (by kernel_rfl) (by kernel_rfl) (by kernel_rfl) (by kernel_rfl) (by kernel_rfl) (fun _ _ _ h => h) (Or.inl ⟨by rfl, ?_⟩) hHeld ?_
      rotate_left
      · intro wq hSw; (try dsimp only at hSw); go_simp; all_goals (with_reducible rfl)
      simp only [Act.put, List.setIfInBounds_toArray, List.set_cons_zero, List.set_cons_succ]
      refine takeU (i := 6) (d := 46) (v := ?_) rfl rfl (by kernel_rfl) (by kernel_rfl) (by kernel_rfl) (by kernel_rfl) (by kernel_rfl) (fun _ _ _ h => h) (Or.inl ⟨by rfl, ?_⟩) hHeld ?_
      rotate_left
      · intro wq hSw; (try dsimp only at hSw); go_simp; all_goals (with_reducible rfl)
      simp only [Act.put, List.setIfInBounds_toArray, List.set_cons_zero, List.set_cons_succ]
      refine takeU (i := 7) (d := 47) (v := ?_) rfl rfl (by kernel_rfl) (by kernel_rfl) (by kernel_rfl) (by kernel_rfl) (by kernel_rfl) (fun _ _ _ h => h) (Or.inl ⟨by rfl, ?_⟩) hHeld ?_
      rotate_left
      · intro wq hSw; (try dsimp only at hSw); go_simp; all_goals (with_reducible rfl)
      simp only [Act.put, List.setIfInBounds_toArray, List.set_cons_zero, List.set_cons_succ]
      refine takeU (i := 8) (d := 48) (v := ?_) rfl rfl (by kernel_rfl) (by kernel_rfl) (by kernel_rfl) (by kernel_rfl) (by kernel_rfl) (fun _ _ _ h => h) (Or.inl ⟨by rfl, ?_⟩) hHeld ?_
      rotate_left
      · intro wq hSw; (try dsimp only at hSw); go_simp; all_goals (with_reducible rfl)
      simp only [Act.put, List.setIfInBounds_toArray, List.set_cons_zero, List.set_cons_succ]
      refine takeU (i := 9) (d := 49) (v := ?_) rfl rfl (by kernel_rfl) (by kernel_rfl) (by kernel_rfl) (by kernel_rfl) (by kernel_rfl) (fun _ _ _ h => h) (Or.inl ⟨by rfl, ?_⟩) hHeld ?_
      rotate_left
      · intro wq hSw; (try dsimp only at hSw); go_simp; all_goals (with_reducible rfl)
      simp only [Act.put, List.setIfInBounds_toArray, List.set_cons_zero, List.set_cons_succ]
      refine takeU (i := 10) (d := 50) (v := ?_) rfl rfl (by kernel_rfl) (by kernel_rfl) (by kernel_rfl) (by kernel_rfl) (by kernel_rfl) (fun _ _ _ h => h) (Or.inl ⟨by rfl, ?_⟩) hHeld ?_
      rotate_left
      · intro wq hSw; (try dsimp only at hSw); go_simp; all_goals (with_reducible rfl)
      simp only [Act.put, List.setIfInBounds_toArray, List.set_cons_zero, List.set_cons_succ]
      refine takeU (i := 11) (d := 51) (v := ?_) rfl rfl (by kernel_rfl) (by kernel_rfl) (by kernel_rfl) (by kernel_rfl) (by kernel_rfl) (fun _ _ _ h => h) (Or.inl ⟨by rfl, ?_⟩) hHeld ?_
      rotate_left
      · intro wq hSw; (try dsimp only at hSw); go_simp; all_goals (with_reducible rfl)
      simp only [Act.put, List.setIfInBounds_toArray, List.set_cons_zero, List.set_cons_succ]
      refine takeU (i := 12) (d := 52) (v := ?_) rfl rfl (by kernel_rfl) (by kernel_rfl) (by kernel_rfl) (by kernel_rfl) (by kernel_rfl) (fun _ _ _ h => h) (Or.inl ⟨by rfl, ?_⟩) hHeld ?_
      rotate_left
      · intro wq hSw; (try dsimp only at hSw); go_simp; all_goals (with_reducible rfl)
      simp only [Act.put, List.setIfInBounds_toArray, List.set_cons_zero, List.set_cons_succ]
      refine takeU (i := 13) (d := 53) (v := ?_) rfl rfl (by kernel_rfl) (by kernel_rfl) (by kernel_rfl) (by kernel_rfl) (by kernel_rfl) (fun _ _ _ h => h) (Or.inl ⟨by rfl, ?_⟩) hHeld ?_
      rotate_left
      · intro wq hSw; (try dsimp only at hSw); go_simp; all_goals (with_reducible rfl)
      simp only [Act.put, List.setIfInBounds_toArray, List.set_cons_zero, List.set_cons_succ]
      refine takeU (i := 14) (d := 54) (v := ?_) rfl rfl (by kernel_rfl) (by kernel_rfl) (by kernel_rfl) (by kernel_rfl) (by kernel_rfl) (fun _ _ _ h => h) (Or.inl ⟨by rfl, ?_⟩) hHeld ?_
      rotate_left
      · intro wq hSw; (try dsimp only at hSw); go_simp; all_goals (with_reducible rfl)
      simp only [Act.put, List.setIfInBounds_toArray, List.set_cons_zero, List.set_cons_succ]
      refine takeU (i := 15) (d := 55) (v := ?_) rfl rfl (by kernel_rfl) (by kernel_rfl) (by kernel_rfl) (by kernel_rfl) (by kernel_rfl) (fun _ _ _ h => h) (Or.inl ⟨by rfl, ?_⟩) hHeld ?_
      rotate_left
      · intro wq hSw; (try dsimp only at hSw); go_simp; all_goals (with_reducible rfl)
      simp only [Act.put, List.setIfInBounds_toArray, List.set_cons_zero, List.set_cons_succ]
      refine takeU (i := 16) (d := 56) (v := ?_) rfl rfl (by kernel_rfl) (by kernel_rfl) (by kernel_rfl) (by kernel_rfl) (by kernel_rfl) (fun _ _ _ h => h) (Or.inl ⟨by rfl, ?_⟩) hHeld ?_
      rotate_left
      · intro wq hSw; (try dsimp only at hSw); go_simp; all_goals (with_reducible rfl)
      simp only [Act.put, List.setIfInBounds_toArray, List.set_cons_zero, List.set_cons_succ]
      refine takeU (i := 17) (d := 57) (v := ?_) rfl rfl (by kernel_rfl) (by kernel_rfl) (by kernel_rfl) (by kernel_rfl) (by kernel_rfl) (fun _ _ _ h => h) (Or.inl ⟨by rfl, ?_⟩) hHeld ?_
      rotate_left
      · intro wq hSw; (try dsimp only at hSw); go_simp; all_goals (with_reducible rfl)
      simp only [Act.put, List.setIfInBounds_toArray, List.set_cons_zero, List.set_cons_succ]
      refine takeU (i := 18) (d := 58) (v := ?_) rfl rfl (by kernel_rfl) (by kernel_rfl) (by kernel_rfl) (by kernel_rfl) (by kernel_rfl) (fun _ _ _ h => h) (Or.inl ⟨by rfl, ?_⟩) hHeld ?_
      rotate_left
      · intro wq hSw; (try dsimp only at hSw); go_simp; all_goals (with_reducible rfl)
      simp only [Act.put, List.setIfInBounds_toArray, List.set_cons_zero, List.set_cons_succ]
      refine wpAnyU_ready (rs := [2]) (by kernel_rfl) (by simp) ?_
      refine AllReadyU.cons rfl (fun K hK => ?_) AllReadyU.nil
      go_simp
      go_at_call 42
      refine (HWr.out _ ((Fr.refl _ _).drew)).mono ?_
      rintro e w5 ⟨rfl, hF5⟩
      have hF6 := hid (((Fr.refl [] wr).drew).trans hF5)
      go_simp
      refine hK.out _ _ (fun _ => HF.out _ hF6.out) (fun hHeld => ?_)
      clear hK K
      refine wpAnyU_ready (rs := [19]) (by kernel_rfl) (by simp) ?_
      refine AllReadyU.cons rfl (fun K hK => ?_) AllReadyU.nil
      go_simp
      go_at_call 41
      refine (HSy.out _ hF6.out).mono ?_
      rintro e w6 ⟨rfl, H7⟩
      have H7 := hid H7
      go_simp
      refine hK.out _ _ (fun h => absurd rfl h) (fun _ => ?_)
      clear hK K hHeld
      refine wpAnyU_done (by kernel_rfl) ?_ _
      clear HF HWr HSy x1c
      go_wp2_with fail
      have hq1 : (q : Int) + 1 = ((q + 1 : Nat) : Int) := by omega
      refine ⟨⟨q + 1, by have := HL.out.1; omega, by rw [hq1], H7⟩, ?_⟩
      show n - ((q : Int) + 1).toNat < n - (q : Int).toNat
      have := HL.out.1
      omega
    · obtain rfl : q = n := by omega
      have HE := hid (show St W wr (smL X S P K N x.says pv sv) from by
        have h := HQ.out
        rw [← HN.out, List.take_length, HX1.out] at h
        exact h.drop)
      clear hlt hq HQ
      go_wp2_with fail
      go_end0
      exact ⟨rfl, HE.out⟩
end

end Go.Proofs.YtkiccbjngokpjaaGreat

/-
  the streams of top: puts (a log).
-/
namespace Go.Proofs.YtkiccbjngokpjaaGreat
open Go.RowKit
set_option linter.unusedVariables false
set_option linter.unusedSimpArgs false

section
variable {W : Base} {w : World}
def Sm.puts (x : Sm) (t : ByteArray) : Sm := if x.s.canPut t then { x with s := x.s.put t } else x
set_option maxHeartbeats 3200000 in
set_option maxRecDepth 100000 in
theorem st_puts {X S P K N : Nat} {x : Sm} {pv sv : Value} (H : St W w (smL X S P K N x pv sv)) (hl : x.s.texts.length ≤ 32) (t : ByteArray) :
    Calls Tryz.prog 24 #[ptr X, .string t] w fun e w' => ∃ pv', e = .returned (.tuple #[]) ∧ St W w' (smL X S P K N (x.puts t) pv' sv) := by
  have hbX := H.blk 0 rfl
  have x0 := cell_blk (i := 0) hbX rfl
  have x1 := cell_blk (i := 1) hbX rfl
  unfold Sm.puts
  cases hc : x.s.canPut t with
  | false =>
    rw [if_neg (by decide)]
    have HP := hid (st_sput_no H 1 rfl t hc)
    clear H hbX hc hl
    go_enter Tryz.func24, Tryz.ntmps24
    go_wp2_with fail
    refine HP.out.mono ?_
    rintro e w1 ⟨z, rfl, hz, H1⟩
    have H1 := hid H1
    have hz2 : (z == 0) = false := by rw [beq_eq_false_iff_ne]; exact hz
    clear hz
    go_wp2_with fail
    go_end0
    exact ⟨_, rfl, H1.out⟩
  | true =>
    rw [if_pos rfl]
    have HP := hid (st_sput H 1 rfl t hc)
    have HL := hid hl
    clear H hbX hc hl
    go_enter Tryz.func24, Tryz.ntmps24
    go_wp2_with fail
    refine HP.out.mono ?_
    rintro e w1 ⟨rfl, H1⟩
    clear x0 x1 HP
    have H1 : St W w1 [BlkT X (smO S P K N x pv sv), SnT S (x.s.put t), WnT P x.w, NtT N (x.bag.map pkDg) x.sent, RowT 9 1 pv x.s.texts.length (txC x.s.texts), RowT 9 1 sv x.stored.length (txC x.stored)] := H1
    obtain ⟨a, c, rfl, _, _⟩ := row_slice (H1.row 4 rfl)
    have hb1 := H1.blk 0 rfl
    have y7 := cell_blk (i := 7) hb1 rfl
    have hg1 := lt_of_block hb1
    have H2 := hid (H1.alloc (.cells #[.string t] 9))
    obtain ⟨i0, hi0, hz0, hz1, hz2⟩ := info_parts info_tx
    have HI := hid (And.intro hi0 (And.intro hz0 (And.intro hz1 hz2)))
    clear hi0 hz0 hz1 hz2 hb1 H1
    go_wp2_with (at_builtin; refine wpAdded H2.out 4 rfl (.tmp 47) (.tmp 49) 32 rfl 9 i0 (.string ByteArray.empty) 1 16 Tryz.underlying32 HI.out.1 HI.out.2.1 HI.out.2.2.1 HI.out.2.2.2 rfl (by decide) (.slice a x.s.texts.length c) x.s.texts.length (txC x.s.texts) rfl rfl (some ⟨w1.heap.size, 0, none⟩) 1 1 (fun q => ([.string t] : List Value).getD q undef) rfl (H2.out.blkIn 6 1 1 rfl (by decide) rfl) (fun j hj => by (obtain rfl : j = 0 := by omega); rfl) (by have := HL.out; unfold maxLen; omega) (by have := HL.out; omega) ?_)
    intro a5 c5 w5 H5
    rw [txC_snoc] at H5
    have b5 := H5.blk 0 rfl
    have z7 := cell_blk (i := 7) b5 rfl
    have f7 := free_blk (i := 7) b5
    have H6 := H5.setBlk 0 rfl 7 (.slice a5 (x.s.texts.length + 1) c5)
    have H7 := hid (show St W (w5.setCell ⟨X, 7, none⟩ (.slice a5 (x.s.texts.length + 1) c5)) (smL X S P K N { x with s := x.s.put t } (.slice a5 (x.s.texts.length + 1) c5) sv) from by
      have h : St W (w5.setCell ⟨X, 7, none⟩ (.slice a5 (x.s.texts.length + 1) c5)) ([BlkT X (smO S P K N { x with s := x.s.put t } (.slice a5 (x.s.texts.length + 1) c5) sv), SnT S (x.s.put t), WnT P x.w, NtT N (x.bag.map pkDg) x.sent, RowT 9 1 (.slice a5 (x.s.texts.length + 1) c5) (x.s.texts.length + 1) (txC (x.s.texts ++ [t])), RowT 9 1 sv x.stored.length (txC x.stored)] ++ [BlkT w1.heap.size (.cells #[.string t] 9)]) := H6
      have h2 := h.drop
      have e : x.s.texts.length + 1 = (x.s.texts ++ [t]).length := by simp
      show St W _ [_, _, _, _, RowT 9 1 (.slice a5 (x.s.texts.length + 1) c5) (x.s.texts ++ [t]).length (txC (x.s.texts ++ [t])), _]
      rw [← e]
      exact h2)
    clear b5 H5 H6 H2 y7 hg1
    go_wp2_with fail
    go_end0
    exact ⟨_, rfl, H7.out⟩
end

end Go.Proofs.YtkiccbjngokpjaaGreat

/-
  the streams of top: comes (a log).
-/
namespace Go.Proofs.YtkiccbjngokpjaaGreat
open Go.RowKit
set_option linter.unusedVariables false
set_option linter.unusedSimpArgs false

section
variable {W : Base} {w : World}
set_option maxHeartbeats 6400000 in
set_option maxRecDepth 100000 in
theorem st_comes_ack {X S P K N : Nat} {x : Sm} {pv sv : Value} (H : St W w (smL X S P K N x pv sv)) (num : Int) (c : Nat) (hc : c ≤ 32) :
    Calls Tryz.prog 28 #[ptr X, dgV (pkDg (num, .ack c))] w fun e w' => e = .returned (.tuple #[]) ∧ St W w' (smL X S P K N (x.comes (.ack c)) pv sv) := by
  have hm := mAck_ok (b := 1) (c := c) (by omega) (by omega) hc
  have H2 := hid (H.alloc (dgO (pkDg (num, .ack c))))
  have HD := hid (st_wdecode H2.out (mAck 1 c) hm)
  have hb2 := H2.out.blk 6 rfl
  obtain ⟨d0, d1, d2, d3, d4, d5⟩ := dg_cells hb2
  clear H hm hc hb2
  have hsf := run_store_func
  go_enter Tryz.func28, Tryz.ntmps28
  go_wp2_with fail
  refine HD.out.mono ?_
  rintro e w1 ⟨rfl, H3⟩
  clear HD d0 d1 d2 d3 d4 d5 H2
  have H4 := H3.alloc (mO (mAck 1 c))
  clear H3
  dsimp only [pkDg, mAck, MV.of, MV.f, mO] at H4 ⊢
  go_upto_region 2 with (fail)
  generalize w1.alloc (.cells #[.int .i64 14, .int .i64 0, .int .i64 0, .int .i64 0, .int .i64 1, .int .i64 0, .int .i64 c, .int .i64 0, .int .u64 0, .string ⟨#[]⟩, .string ⟨#[]⟩] 63) = w2 at H4 ⊢
  generalize w1.heap.size = pm at H4 ⊢
  generalize w.heap.size = pd at H4 ⊢
  have hbd := H4.blk 6 rfl
  obtain ⟨d0, d1, d2, d3, d4, d5⟩ := dg_cells hbd
  have hbm := H4.blk 7 rfl
  have m0 := cell_blk (i := 0) hbm rfl
  have m4 := cell_blk (i := 4) hbm rfl
  have m6 := cell_blk (i := 6) hbm rfl
  have hbX := H4.blk 0 rfl
  have HK := hid (show ∀ wx, Fr [] w2 wx → wx.cell? ⟨X, 0, none⟩ = some (ptr S) ∧ wx.cell? ⟨X, 6, none⟩ = some (.int .i64 1) ∧ wx.cell? ⟨pm, 0, none⟩ = some (.int .i64 14) ∧ wx.cell? ⟨pm, 4, none⟩ = some (.int .i64 1) ∧ wx.cell? ⟨pm, 6, none⟩ = some (.int .i64 c) ∧ wx.cell? ⟨pd, 3, none⟩ = some (.int .i64 2) ∧ wx.cell? ⟨pd, 4, none⟩ = some (.int .i64 1) from fun wx hF =>
    ⟨cell_blk (i := 0) (hF.keep hbX (by simp)) rfl, cell_blk (i := 6) (hF.keep hbX (by simp)) rfl, hF.cell0 m0, hF.cell0 m4, hF.cell0 m6, hF.cell0 d3, hF.cell0 d4⟩)
  have HWr := hid (show ∀ wx, Fr [] w2 wx → Calls Tryz.prog 42 #[ptr X] wx fun e w' => e = .returned (adV 2 1) ∧ Fr [] wx w' from fun wx hF => writer_blk (hF.keep hbX (by simp)))
  have H4 := hid H4
  clear hbd hbm hbX d0 d1 d2 d4 d5 m0 m4 m6
  go_wp2_with fail
  refine wp_region_calm (S := fun wx : World => Fr [] w2 wx) (by kernel_rfl) (by kernel_rfl) ((Fr.refl _ _).drew) ?_
  repeat (first | (refine calmRow_free (v := ?_) rfl ?_ ?_; rotate_left; (focus (intro wx hSx; (try dsimp only at hSx); have hcx := HK.out wx hSx; go_simp; (first | with_reducible rfl | exact ⟨rfl, hSx⟩ | (refine (HWr.out _ hSx).mono ?_; rintro e w9 ⟨rfl, hF9⟩; refine ⟨?_, hSx.trans hF9⟩; with_reducible rfl)))); (try simp only [Act.put, List.setIfInBounds_toArray, List.set_cons_zero, List.set_cons_succ])) | (refine calmRow_skip ?_ ?_; (focus (go_simp; (try (intro hx; cases hx)); done)); (try simp only [Act.put, List.setIfInBounds_toArray, List.set_cons_zero, List.set_cons_succ])) | (refine calmRow_take (v := ?_) ?_ ?_ ?_; rotate_left; (focus (go_simp; done)); (focus (intro wx hSx; (try dsimp only at hSx); have hcx := HK.out wx hSx; go_simp; (first | with_reducible rfl | exact ⟨rfl, hSx⟩ | (refine (HWr.out _ hSx).mono ?_; rintro e w9 ⟨rfl, hF9⟩; refine ⟨?_, hSx.trans hF9⟩; with_reducible rfl)))); (try simp only [Act.put, List.setIfInBounds_toArray, List.set_cons_zero, List.set_cons_succ])))
  refine calmRow_nil ?_
  intro wn hFx
  try dsimp only at hFx
  go_wp2_with fail
  refine wp_region_U (S := fun wx : World => wx.cell? ⟨X, 0, none⟩ = some (ptr S) ∧ wx.cell? ⟨pm, 6, none⟩ = some (.int .i64 c)) 6 (by kernel_rfl) ⟨(HK.out _ (hFx.trans ((Fr.refl [] wn).drew))).1, (HK.out _ (hFx.trans ((Fr.refl [] wn).drew))).2.2.2.2.1⟩ (fun hHeld => ?_)
  refine takeU (i := 0) (d := 84) (v := ?_) rfl rfl (by kernel_rfl) (by kernel_rfl) (by kernel_rfl) (by kernel_rfl) (by kernel_rfl) (fun _ _ _ h => h) (Or.inl ⟨by rfl, ?_⟩) hHeld ?_
  rotate_left
  · intro wq hSw; (try dsimp only at hSw); go_simp; all_goals (with_reducible rfl)
  simp only [Act.put, List.setIfInBounds_toArray, List.set_cons_zero, List.set_cons_succ]
  refine takeU (i := 1) (d := 85) (v := ?_) rfl rfl (by kernel_rfl) (by kernel_rfl) (by kernel_rfl) (by kernel_rfl) (by kernel_rfl) (fun _ _ _ h => h) (Or.inl ⟨by rfl, ?_⟩) hHeld ?_
  rotate_left
  · intro wq hSw; (try dsimp only at hSw); go_simp; all_goals (with_reducible rfl)
  simp only [Act.put, List.setIfInBounds_toArray, List.set_cons_zero, List.set_cons_succ]
  refine takeU (i := 2) (d := 86) (v := ?_) rfl rfl (by kernel_rfl) (by kernel_rfl) (by kernel_rfl) (by kernel_rfl) (by kernel_rfl) (fun _ _ _ h => h) (Or.inl ⟨by rfl, ?_⟩) hHeld ?_
  rotate_left
  · intro wq hSw; (try dsimp only at hSw); go_simp; all_goals (with_reducible rfl)
  simp only [Act.put, List.setIfInBounds_toArray, List.set_cons_zero, List.set_cons_succ]
  refine takeU (i := 3) (d := 87) (v := ?_) rfl rfl (by kernel_rfl) (by kernel_rfl) (by kernel_rfl) (by kernel_rfl) (by kernel_rfl) (fun _ _ _ h => h) (Or.inl ⟨by rfl, ?_⟩) hHeld ?_
  rotate_left
  · intro wq hSw; (try dsimp only at hSw); go_simp; all_goals (with_reducible rfl)
  simp only [Act.put, List.setIfInBounds_toArray, List.set_cons_zero, List.set_cons_succ]
  refine takeU (i := 4) (d := 88) (v := ?_) rfl rfl (by kernel_rfl) (by kernel_rfl) (by kernel_rfl) (by kernel_rfl) (by kernel_rfl) (fun _ _ _ h => h) (Or.inl ⟨by rfl, ?_⟩) hHeld ?_
  rotate_left
  · intro wq hSw; (try dsimp only at hSw); go_simp; all_goals (with_reducible rfl)
  simp only [Act.put, List.setIfInBounds_toArray, List.set_cons_zero, List.set_cons_succ]
  refine takeU (i := 5) (d := 89) (v := ?_) rfl rfl (by kernel_rfl) (by kernel_rfl) (by kernel_rfl) (by kernel_rfl) (by kernel_rfl) (fun _ _ _ h => h) (Or.inl ⟨by rfl, ?_⟩) hHeld ?_
  rotate_left
  · intro wq hSw; (try dsimp only at hSw); go_simp; all_goals (with_reducible rfl)
  simp only [Act.put, List.setIfInBounds_toArray, List.set_cons_zero, List.set_cons_succ]
  refine wpAnyU_ready (rs := [6]) (by kernel_rfl) (by simp) ?_
  refine AllReadyU.cons rfl (fun K hK => ?_) AllReadyU.nil
  go_simp
  go_at_call 46
  refine (st_sack (H4.out.same (hFx.trans ((Fr.refl [] wn).drew))) 1 rfl c).mono ?_
  rintro e w6 ⟨rfl, H7⟩
  have H7 := hid H7
  go_simp
  refine hK.out _ _ (fun h => absurd rfl h) (fun _ => ?_)
  clear hK K hHeld
  refine wpAnyU_done (by kernel_rfl) ?_ _
  clear HK HWr H4
  go_wp2_with fail
  go_end0
  refine ⟨rfl, ?_⟩
  obtain ⟨a1, a2, a3, a4⟩ := Sn.ack_is x.s c
  have h := H7.out.take 6
  show St W w6 [BlkT X (stO (ptr S) (ptr P) (ptr K) N (x.s.ack c).win (x.s.ack c).res 1 pv sv), SnT S (x.s.ack c), WnT P x.w, NtT N (x.bag.map pkDg) x.sent, RowT 9 1 pv (x.s.ack c).texts.length (txC (x.s.ack c).texts), RowT 9 1 sv x.stored.length (txC x.stored)]
  rw [a1, a2, a3]
  exact h
end

section
variable {W : Base} {w : World}
set_option maxHeartbeats 6400000 in
set_option maxRecDepth 100000 in
theorem st_comes_chunk {X S P K N : Nat} {x : Sm} {pv sv : Value} (H : St W w (smL X S P K N x pv sv)) (hx : x.ok) (hbl : x.bag.length ≤ 536870912) (num : Int) (ix : Nat) (t : ByteArray) (hp : PktOk x.s.said x.w.next x.s.texts (.chunk ix t)) :
    Calls Tryz.prog 28 #[ptr X, dgV (pkDg (num, .chunk ix t))] w fun e w' => ∃ sv', e = .returned (.tuple #[]) ∧ St W w' (smL X S P K N (x.comes (.chunk ix t)) pv sv') := by
  have hok := hx.comes hp
  have hsd : ix ≤ 31 ∧ t.size ≤ 32 := by
    have := hx.d3; have := hx.d4
    obtain ⟨h1, h2⟩ := hp
    exact ⟨by omega, hx.tx _ (List.mem_of_getElem? h2)⟩
  have hnx : x.w.next ≤ 32 := by have := hx.d2; have := hx.d3; have := hx.d4; omega
  have hnx2 : (x.w.take ix t).1.next ≤ 32 := by
    have h1 := hok.d2; have h2 := hok.d3; have h3 := hok.d4
    exact Nat.le_trans (Nat.le_trans h1 h2) h3
  have hst2 : (x.stored ++ (x.w.take ix t).2).length ≤ 32 := by
    have h1 := hok.begun.2.2
    have h2 : (x.comes (.chunk ix t)).stored = x.stored ++ (x.w.take ix t).2 := rfl
    have h3 : (x.comes (.chunk ix t)).w.next = (x.w.take ix t).1.next := rfl
    rw [h2, h3] at h1
    rw [h1]
    exact hnx2
  have hhf := hx.held_few
  have hm := mChunk_ok (b := 1) (by omega) (by omega) hsd.1 hsd.2
  have H2 := hid (H.alloc (dgO (pkDg (num, .chunk ix t))))
  have HD := hid (st_wdecode H2.out (mChunk 1 ix t) hm)
  have hb2 := H2.out.blk 6 rfl
  obtain ⟨d0, d1, d2, d3, d4, d5⟩ := dg_cells hb2
  have HT := hid (show ∀ (wx : World) (R : List Thing) (i : Nat), St W wx R → R[i]? = some (WnT P x.w) → Calls Tryz.prog 16 #[ptr P, .int .i64 ix, .string t] wx (WtTo W R i P (x.w.take ix t).1 (x.w.take ix t).2) from fun wx R i h hi => by
    by_cases hf : x.w.fits ix t = true
    · exact st_wtake h i hi ix t hf hnx (by omega)
    · have hf' : x.w.fits ix t = false := by simpa using hf
      have e : x.w.take ix t = (x.w, []) := by unfold Wn.take; rw [if_neg hf]
      rw [e]
      exact st_wtake_no h i hi ix t hf' (by omega) hnx)
  have HB := hid (And.intro hnx2 (And.intro hst2 hbl))
  clear H hm hb2 hok hp hsd hnx hnx2 hst2 hhf hx hbl
  have hsf := run_store_func
  go_enter Tryz.func28, Tryz.ntmps28
  go_wp2_with fail
  refine HD.out.mono ?_
  rintro e w1 ⟨rfl, H3⟩
  clear HD d0 d1 d2 d3 d4 d5 H2
  have H4 := H3.alloc (mO (mChunk 1 ix t))
  clear H3
  dsimp only [pkDg, mChunk, MV.of, MV.f, mO] at H4 ⊢
  go_upto_region 2 with (fail)
  generalize w1.alloc (.cells #[.int .i64 5, .int .i64 0, .int .i64 0, .int .i64 0, .int .i64 1, .int .i64 ix, .int .i64 0, .int .i64 0, .int .u64 0, .string t, .string ⟨#[]⟩] 63) = w2 at H4 ⊢
  generalize w1.heap.size = pm at H4 ⊢
  generalize w.heap.size = pd at H4 ⊢
  have hbd := H4.blk 6 rfl
  obtain ⟨d0, d1, d2, d3, d4, d5⟩ := dg_cells hbd
  have hbm := H4.blk 7 rfl
  have m4 := cell_blk (i := 4) hbm rfl
  have m5 := cell_blk (i := 5) hbm rfl
  have m9 := cell_blk (i := 9) hbm rfl
  have hbX := H4.blk 0 rfl
  have x1 := cell_blk (i := 1) hbX rfl
  have hgX := lt_of_block hbX
  have H4 := hid H4
  clear hbd hbX hbm
  go_wp2_with fail
  refine wp_region_U (S := fun wx : World => wx.cell? ⟨X, 1, none⟩ = some (ptr P) ∧ wx.cell? ⟨pm, 5, none⟩ = some (.int .i64 ix) ∧ wx.cell? ⟨pm, 9, none⟩ = some (.string t)) 13 (by kernel_rfl) ⟨x1, m5, m9⟩ (fun hHeld => ?_)
  refine takeU (i := 0) (d := 22) (v := ?_) rfl rfl (by kernel_rfl) (by kernel_rfl) (by kernel_rfl) (by kernel_rfl) (by kernel_rfl) (fun _ _ _ h => h) (Or.inl ⟨by rfl, ?_⟩) hHeld ?_
  rotate_left
  · intro wq hSw; (try dsimp only at hSw); go_simp; all_goals (with_reducible rfl)
  simp only [Act.put, List.setIfInBounds_toArray, List.set_cons_zero, List.set_cons_succ]
  refine takeU (i := 1) (d := 23) (v := ?_) rfl rfl (by kernel_rfl) (by kernel_rfl) (by kernel_rfl) (by kernel_rfl) (by kernel_rfl) (fun _ _ _ h => h) (Or.inl ⟨by rfl, ?_⟩) hHeld ?_
  rotate_left
  · intro wq hSw; (try dsimp only at hSw); go_simp; all_goals (with_reducible rfl)
  simp only [Act.put, List.setIfInBounds_toArray, List.set_cons_zero, List.set_cons_succ]
  refine takeU (i := 2) (d := 24) (v := ?_) rfl rfl (by kernel_rfl) (by kernel_rfl) (by kernel_rfl) (by kernel_rfl) (by kernel_rfl) (fun _ _ _ h => h) (Or.inl ⟨by rfl, ?_⟩) hHeld ?_
  rotate_left
  · intro wq hSw; (try dsimp only at hSw); go_simp; all_goals (with_reducible rfl)
  simp only [Act.put, List.setIfInBounds_toArray, List.set_cons_zero, List.set_cons_succ]
  refine takeU (i := 3) (d := 25) (v := ?_) rfl rfl (by kernel_rfl) (by kernel_rfl) (by kernel_rfl) (by kernel_rfl) (by kernel_rfl) (fun _ _ _ h => h) (Or.inl ⟨by rfl, ?_⟩) hHeld ?_
  rotate_left
  · intro wq hSw; (try dsimp only at hSw); go_simp; all_goals (with_reducible rfl)
  simp only [Act.put, List.setIfInBounds_toArray, List.set_cons_zero, List.set_cons_succ]
  refine takeU (i := 4) (d := 26) (v := ?_) rfl rfl (by kernel_rfl) (by kernel_rfl) (by kernel_rfl) (by kernel_rfl) (by kernel_rfl) (fun _ _ _ h => h) (Or.inl ⟨by rfl, ?_⟩) hHeld ?_
  rotate_left
  · intro wq hSw; (try dsimp only at hSw); go_simp; all_goals (with_reducible rfl)
  simp only [Act.put, List.setIfInBounds_toArray, List.set_cons_zero, List.set_cons_succ]
  refine takeU (i := 5) (d := 27) (v := ?_) rfl rfl (by kernel_rfl) (by kernel_rfl) (by kernel_rfl) (by kernel_rfl) (by kernel_rfl) (fun _ _ _ h => h) (Or.inl ⟨by rfl, ?_⟩) hHeld ?_
  rotate_left
  · intro wq hSw; (try dsimp only at hSw); go_simp; all_goals (with_reducible rfl)
  simp only [Act.put, List.setIfInBounds_toArray, List.set_cons_zero, List.set_cons_succ]
  refine takeU (i := 6) (d := 28) (v := ?_) rfl rfl (by kernel_rfl) (by kernel_rfl) (by kernel_rfl) (by kernel_rfl) (by kernel_rfl) (fun _ _ _ h => h) (Or.inl ⟨by rfl, ?_⟩) hHeld ?_
  rotate_left
  · intro wq hSw; (try dsimp only at hSw); go_simp; all_goals (with_reducible rfl)
  simp only [Act.put, List.setIfInBounds_toArray, List.set_cons_zero, List.set_cons_succ]
  refine takeU (i := 7) (d := 29) (v := ?_) rfl rfl (by kernel_rfl) (by kernel_rfl) (by kernel_rfl) (by kernel_rfl) (by kernel_rfl) (fun _ _ _ h => h) (Or.inl ⟨by rfl, ?_⟩) hHeld ?_
  rotate_left
  · intro wq hSw; (try dsimp only at hSw); go_simp; all_goals (with_reducible rfl)
  simp only [Act.put, List.setIfInBounds_toArray, List.set_cons_zero, List.set_cons_succ]
  refine wpAnyU_ready (rs := [8]) (by kernel_rfl) (by simp) ?_
  refine AllReadyU.cons rfl (fun K hK => ?_) AllReadyU.nil
  go_simp
  go_at_call 16
  refine (HT.out _ _ 2 (H4.out.same ((Fr.refl [] w2).drew)) rfl).mono ?_
  rintro e w6 ⟨v, z, rfl, -, H7⟩
  have hb6 := H7.blk 0 rfl
  have hm6 := H7.blk 7 rfl
  have hd6 := H7.blk 6 rfl
  have H7 := hid H7
  clear x1 m5 m9 hgX HT
  go_simp
  refine hK.out _ _ (fun _ => ⟨cell_blk (i := 1) hb6 rfl, cell_blk (i := 5) hm6 rfl, cell_blk (i := 9) hm6 rfl⟩) (fun hHeld => ?_)
  clear hK K
  have hHeld := hHeld (by decide)
  refine takeU (i := 9) (d := 21) (v := ?_) rfl rfl (by kernel_rfl) (by kernel_rfl) (by kernel_rfl) (by kernel_rfl) (by kernel_rfl) (fun _ _ _ h => h) (Or.inl ⟨by rfl, ?_⟩) hHeld ?_
  rotate_left
  · intro wq hSw; (try dsimp only at hSw); go_simp; all_goals (with_reducible rfl)
  simp only [Act.put, List.setIfInBounds_toArray, List.set_cons_zero, List.set_cons_succ]
  refine takeU (i := 10) (d := 31) (v := ?_) rfl rfl (by kernel_rfl) (by kernel_rfl) (by kernel_rfl) (by kernel_rfl) (by kernel_rfl) (fun _ _ _ h => h) (Or.inl ⟨by rfl, ?_⟩) hHeld ?_
  rotate_left
  · intro wq hSw; (try dsimp only at hSw); go_simp; all_goals (with_reducible rfl)
  simp only [Act.put, List.setIfInBounds_toArray, List.set_cons_zero, List.set_cons_succ]
  refine takeU (i := 11) (d := 32) (v := ?_) rfl rfl (by kernel_rfl) (by kernel_rfl) (by kernel_rfl) (by kernel_rfl) (by kernel_rfl) (fun _ _ _ h => h) (Or.inl ⟨by rfl, ?_⟩) hHeld ?_
  rotate_left
  · intro wq hSw; (try dsimp only at hSw); go_simp; all_goals (with_reducible rfl)
  simp only [Act.put, List.setIfInBounds_toArray, List.set_cons_zero, List.set_cons_succ]
  refine takeU (i := 12) (d := 8) (v := ?_) rfl rfl (by kernel_rfl) (by kernel_rfl) (by kernel_rfl) (by kernel_rfl) (by kernel_rfl) (fun _ _ _ h => h) (Or.inl ⟨by rfl, ?_⟩) hHeld ?_
  rotate_left
  · intro wq hSw; (try dsimp only at hSw); go_simp; all_goals (with_reducible rfl)
  simp only [Act.put, List.setIfInBounds_toArray, List.set_cons_zero, List.set_cons_succ]
  refine wpAnyU_ready (rs := [13]) (by kernel_rfl) (by simp) ?_
  refine AllReadyU.cons rfl (fun K hK => ?_) AllReadyU.nil
  go_simp
  refine hK.out _ _ (fun h => absurd rfl h) (fun _ => ?_)
  clear hK K hHeld
  refine wpAnyU_done (by kernel_rfl) ?_ _
  obtain ⟨d0, d1, d2, d3, d4, d5⟩ := dg_cells hd6
  have m4 := cell_blk (i := 4) hm6 rfl
  have x1 := cell_blk (i := 1) hb6 rfl
  have x8 := cell_blk (i := 8) hb6 rfl
  have hgX := lt_of_block hb6
  obtain ⟨sa, sc, rfl, _, _⟩ := row_slice (H7.out.row 5 rfl)
  obtain ⟨la, lc, rfl, hl1, hl2⟩ := row_slice (H7.out.row 8 rfl)
  have hLI : In w6 1 la (x.w.take ix t).2.length lc (fun q => (txC (x.w.take ix t).2).getD q undef) := by
    obtain ⟨a9, c9, e9, hI, _⟩ := ownsRow_In (H7.out.row 8 rfl) (fun q => (txC (x.w.take ix t).2).getD q undef) (fun q hq => by
      rw [List.getD_eq_getElem?_getD, List.getElem?_eq_getElem (by have : (txC (x.w.take ix t).2).length = (x.w.take ix t).2.length := by simp [txC]
                                                                   omega)]
      rfl)
    simp only [Value.slice.injEq, true_and] at e9
    obtain ⟨rfl, rfl⟩ := e9
    exact hI
  have HLI := hid hLI
  have HE := hid (show x.comes (.chunk ix t) = ({ x with w := (x.w.take ix t).1, stored := x.stored ++ (x.w.take ix t).2 } : Sm).send (.ack (x.w.take ix t).1.next) from rfl)
  clear hb6 hm6 hd6 hLI H4
  generalize (x.w.take ix t).1 = y at HB H7 HE
  generalize (x.w.take ix t).2 = l at HB H7 HLI HE ⊢
  obtain ⟨i0, hi0, hz0, hz1, hz2⟩ := info_parts info_tx
  have HI := hid (And.intro hi0 (And.intro hz0 (And.intro hz1 hz2)))
  have HBl := hid (show x.stored.length + l.length ≤ 32 from by have := HB.out.2.1; rwa [List.length_append] at this)
  have HO := hid (show ∀ j, j < l.length * 1 → ((txC l).getD j undef).oneCell' = true from fun j hj => by
    have hj2 : j < (txC l).length := by simp [txC]; omega
    rw [List.getD_eq_getElem?_getD, List.getElem?_eq_getElem hj2]
    simp [txC]
    rfl)
  have HRg := hid (show (List.range l.length).map (fun q => (txC l)[q]?.getD undef) = txC l from by
    have h1 : (txC l).length = l.length := by simp [txC]
    apply List.ext_getElem
    · simp [h1]
    · intro q h2 h3
      simp only [List.getElem_map, List.getElem_range]
      rw [List.getElem?_eq_getElem h3]
      rfl)
  clear hi0 hz0 hz1 hz2 hl1 hl2
  go_wp2_with (at_builtin; refine wpAdded H7.out 5 rfl (.tmp 37) (.tmp 38) 32 rfl 9 i0 (.string ByteArray.empty) 1 16 Tryz.underlying32 HI.out.1 HI.out.2.1 HI.out.2.2.1 HI.out.2.2.2 rfl (by decide) (.slice sa x.stored.length sc) x.stored.length (txC x.stored) rfl rfl la l.length lc (fun q => (txC l).getD q undef) rfl HLI.out HO.out (by have := HBl.out; unfold maxLen; omega) (by have := HBl.out; omega) ?_)
  intro a5 c5 w5 H8
  rw [HRg.out] at H8
  have eT : txC x.stored ++ txC l = txC (x.stored ++ l) := by simp [txC]
  rw [eT] at H8
  have b8 := H8.blk 0 rfl
  have f8 := free_blk (i := 8) b8
  have x8 := cell_blk (i := 8) b8 rfl
  have H9 := H8.setBlk 0 rfl 8 (.slice a5 (x.stored.length + l.length) c5)
  obtain ⟨x2, hx2⟩ : ∃ x2 : Sm, x2 = { x with w := y, stored := x.stored ++ l } := ⟨_, rfl⟩
  have H9 : St W (w5.setCell ⟨X, 8, none⟩ (.slice a5 (x.stored.length + l.length) c5)) (smL X S P K N x2 pv (.slice a5 (x.stored.length + l.length) c5) ++ [BlkT pd (dgO ⟨num, 2, 1, 0, 0, (mChunk 1 ix t).enc⟩), BlkT pm (mO (mChunk 1 ix t))]) := by
    have h := H9.take 8
    have e : (x.stored ++ l).length = x.stored.length + l.length := by simp
    subst hx2
    show St W _ [_, _, _, _, _, RowT 9 1 (.slice a5 (x.stored.length + l.length) c5) (x.stored ++ l).length (txC (x.stored ++ l)), _, _]
    rw [e]
    exact h
  have HS := hid (show ∀ (wx : World), St W wx (smL X S P K N x2 pv (.slice a5 (x.stored.length + l.length) c5) ++ [BlkT pd (dgO ⟨num, 2, 1, 0, 0, (mChunk 1 ix t).enc⟩), BlkT pm (mO (mChunk 1 ix t))]) → wx.cell? ⟨X, 1, none⟩ = some (ptr P) ∧ (wx.cell? ⟨pd, 1, none⟩ = some (.int .i64 2) ∧ wx.cell? ⟨pd, 2, none⟩ = some (.int .i64 1)) ∧ wx.cell? ⟨pm, 4, none⟩ = some (.int .i64 1) from fun wx h =>
    ⟨cell_blk (i := 1) (h.blk 0 rfl) rfl, ⟨cell_blk (i := 1) (h.blk 6 rfl) rfl, cell_blk (i := 2) (h.blk 6 rfl) rfl⟩, cell_blk (i := 4) (h.blk 7 rfl) rfl⟩)
  have HX2 := hid hx2
  have H9 := hid H9
  clear b8 H8 eT hx2 d0 d1 d2 d3 d4 d5 m4 x1 hgX H7
  go_wp2_with fail
  generalize w5.setCell ⟨X, 8, none⟩ (.slice a5 (x.stored.length + l.length) c5) = w7 at H9 ⊢
  clear f8 x8
  refine wp_region_U (S := fun wx : World => wx.cell? ⟨X, 1, none⟩ = some (ptr P) ∧ (wx.cell? ⟨pd, 1, none⟩ = some (.int .i64 2) ∧ wx.cell? ⟨pd, 2, none⟩ = some (.int .i64 1)) ∧ wx.cell? ⟨pm, 4, none⟩ = some (.int .i64 1)) 12 (by kernel_rfl) (HS.out _ (H9.out.same ((Fr.refl [] w7).drew))) (fun hHeld => ?_)
  refine takeU (i := 0) (d := 42) (v := ?_) rfl rfl (by kernel_rfl) (by kernel_rfl) (by kernel_rfl) (by kernel_rfl) (by kernel_rfl) (fun _ _ _ h => h) (Or.inl ⟨by rfl, ?_⟩) hHeld ?_
  rotate_left
  · intro wq hSw; (try dsimp only at hSw); go_simp; all_goals (with_reducible rfl)
  simp only [Act.put, List.setIfInBounds_toArray, List.set_cons_zero, List.set_cons_succ]
  refine takeU (i := 1) (d := 43) (v := ?_) rfl rfl (by kernel_rfl) (by kernel_rfl) (by kernel_rfl) (by kernel_rfl) (by kernel_rfl) (fun _ _ _ h => h) (Or.inl ⟨by rfl, ?_⟩) hHeld ?_
  rotate_left
  · intro wq hSw; (try dsimp only at hSw); go_simp; all_goals (with_reducible rfl)
  simp only [Act.put, List.setIfInBounds_toArray, List.set_cons_zero, List.set_cons_succ]
  refine takeU (i := 2) (d := 44) (v := ?_) rfl rfl (by kernel_rfl) (by kernel_rfl) (by kernel_rfl) (by kernel_rfl) (by kernel_rfl) (fun _ _ _ h => h) (Or.inl ⟨by rfl, ?_⟩) hHeld ?_
  rotate_left
  · intro wq hSw; (try dsimp only at hSw); go_simp; all_goals (with_reducible rfl)
  simp only [Act.put, List.setIfInBounds_toArray, List.set_cons_zero, List.set_cons_succ]
  refine takeU (i := 3) (d := 45) (v := ?_) rfl rfl (by kernel_rfl) (by kernel_rfl) (by kernel_rfl) (by kernel_rfl) (by kernel_rfl) (fun _ _ _ h => h) (Or.inl ⟨by rfl, ?_⟩) hHeld ?_
  rotate_left
  · intro wq hSw; (try dsimp only at hSw); go_simp; all_goals (with_reducible rfl)
  simp only [Act.put, List.setIfInBounds_toArray, List.set_cons_zero, List.set_cons_succ]
  refine takeU (i := 4) (d := 46) (v := ?_) rfl rfl (by kernel_rfl) (by kernel_rfl) (by kernel_rfl) (by kernel_rfl) (by kernel_rfl) (fun _ _ _ h => h) (Or.inl ⟨by rfl, ?_⟩) hHeld ?_
  rotate_left
  · intro wq hSw; (try dsimp only at hSw); go_simp; all_goals (with_reducible rfl)
  simp only [Act.put, List.setIfInBounds_toArray, List.set_cons_zero, List.set_cons_succ]
  refine takeU (i := 5) (d := 47) (v := ?_) rfl rfl (by kernel_rfl) (by kernel_rfl) (by kernel_rfl) (by kernel_rfl) (by kernel_rfl) (fun _ _ _ h => h) (Or.inl ⟨by rfl, ?_⟩) hHeld ?_
  rotate_left
  · intro wq hSw; (try dsimp only at hSw); go_simp; all_goals (with_reducible rfl)
  simp only [Act.put, List.setIfInBounds_toArray, List.set_cons_zero, List.set_cons_succ]
  refine takeU (i := 6) (d := 48) (v := ?_) rfl rfl (by kernel_rfl) (by kernel_rfl) (by kernel_rfl) (by kernel_rfl) (by kernel_rfl) (fun _ _ _ h => h) (Or.inl ⟨by rfl, ?_⟩) hHeld ?_
  rotate_left
  · intro wq hSw; (try dsimp only at hSw); go_simp; all_goals (with_reducible rfl)
  simp only [Act.put, List.setIfInBounds_toArray, List.set_cons_zero, List.set_cons_succ]
  refine takeU (i := 7) (d := 49) (v := ?_) rfl rfl (by kernel_rfl) (by kernel_rfl) (by kernel_rfl) (by kernel_rfl) (by kernel_rfl) (fun _ _ _ h => h) (Or.inl ⟨by rfl, ?_⟩) hHeld ?_
  rotate_left
  · intro wq hSw; (try dsimp only at hSw); go_simp; all_goals (with_reducible rfl)
  simp only [Act.put, List.setIfInBounds_toArray, List.set_cons_zero, List.set_cons_succ]
  refine takeU (i := 8) (d := 50) (v := ?_) rfl rfl (by kernel_rfl) (by kernel_rfl) (by kernel_rfl) (by kernel_rfl) (by kernel_rfl) (fun _ _ _ h => h) (Or.inl ⟨by rfl, ?_⟩) hHeld ?_
  rotate_left
  · intro wq hSw; (try dsimp only at hSw); go_simp; all_goals (with_reducible rfl)
  simp only [Act.put, List.setIfInBounds_toArray, List.set_cons_zero, List.set_cons_succ]
  refine takeU (i := 9) (d := 51) (v := ?_) rfl rfl (by kernel_rfl) (by kernel_rfl) (by kernel_rfl) (by kernel_rfl) (by kernel_rfl) (fun _ _ _ h => h) (Or.inl ⟨by rfl, ?_⟩) hHeld ?_
  rotate_left
  · intro wq hSw; (try dsimp only at hSw); go_simp; all_goals (with_reducible rfl)
  simp only [Act.put, List.setIfInBounds_toArray, List.set_cons_zero, List.set_cons_succ]
  refine wpAnyU_ready (rs := [10]) (by kernel_rfl) (by simp) ?_
  refine AllReadyU.cons rfl (fun K hK => ?_) AllReadyU.nil
  go_simp
  go_at_call 48
  refine (st_wnext (H9.out.same ((Fr.refl [] w7).drew)) 2 rfl).mono ?_
  rintro e w8 ⟨rfl, rfl⟩
  go_simp
  refine hK.out _ _ (fun _ => hHeld) (fun _ => ?_)
  clear hK K
  have hy2 : x2.w.next = y.next := by rw [HX2.out]
  rw [hy2]
  refine takeU (i := 11) (d := 53) (v := ?_) rfl rfl (by kernel_rfl) (by kernel_rfl) (by kernel_rfl) (by kernel_rfl) (by kernel_rfl) (fun _ _ _ h => h) (Or.inl ⟨by rfl, ?_⟩) hHeld ?_
  rotate_left
  · intro wq hSw; (try dsimp only at hSw); go_simp; all_goals (with_reducible rfl)
  simp only [Act.put, List.setIfInBounds_toArray, List.set_cons_zero, List.set_cons_succ]
  refine wpAnyU_ready (rs := [12]) (by kernel_rfl) (by simp) ?_
  refine AllReadyU.cons rfl (fun K1 hK => ?_) AllReadyU.nil
  go_simp
  go_at_call 41
  refine (st_say (H9.out.same ((Fr.refl [] w7).drew)) 0 3 (s := ptr S) (p := ptr P) (k := ptr K) rfl (bag := x2.bag.map pkDg) rfl (by have := HB.out.2.2; rw [HX2.out, List.length_map]; show x.bag.length ≤ _; omega) 0 0 2 1 (mAck 1 y.next) (mAck_ok (by omega) (by omega) HB.out.1)).mono ?_
  rintro e w9 ⟨rfl, H10⟩
  have H11 := hid (show St W w9 (smL X S P K N (x.comes (.chunk ix t)) pv (.slice a5 (x.stored.length + l.length) c5)) from by
    rw [HE.out, ← HX2.out]
    exact sm_send rfl (H10.take 6))
  clear H10
  go_simp
  refine hK.out _ _ (fun h => absurd rfl h) (fun _ => ?_)
  clear hK K1 hHeld
  refine wpAnyU_done (by kernel_rfl) ?_ _
  go_wp2_with fail
  go_end0
  exact ⟨_, rfl, H11.out⟩
end

end Go.Proofs.YtkiccbjngokpjaaGreat

/-
  the streams of top: does (a log).
-/
namespace Go.Proofs.YtkiccbjngokpjaaGreat
open Go.RowKit
set_option linter.unusedVariables false
set_option linter.unusedSimpArgs false

theorem tmod_neg (n m : Int) (hn : n < 0) (hm : 1 ≤ m) : n.tmod m = if n % m = 0 then 0 else n % m - m := by
  have key : n.tmod m = - ((-n) % m) := by
    rw [← Int.tmod_eq_emod_of_nonneg (by omega : 0 ≤ -n), Int.neg_tmod]; simp
  rw [key]
  have h1 := Int.mul_ediv_add_emod n m
  have h2 := Int.mul_ediv_add_emod (-n) m
  have e1 : 0 ≤ (-n) % m := Int.emod_nonneg _ (by omega)
  have e2 : (-n) % m < m := Int.emod_lt_of_pos _ (by omega)
  have e3 : 0 ≤ n % m := Int.emod_nonneg _ (by omega)
  have e4 : n % m < m := Int.emod_lt_of_pos _ (by omega)
  have hd : (n % m + (-n) % m) % m = 0 := by
    rw [← Int.add_emod, Int.add_right_neg, Int.zero_emod]
  by_cases hz : n % m = 0
  · rw [if_pos hz]; rw [hz] at hd; simp at hd; omega
  · rw [if_neg hz]
    have : n % m + (-n) % m < 2 * m := by omega
    by_cases hlt : n % m + (-n) % m < m
    · rw [Int.emod_eq_of_lt (by omega) hlt] at hd; omega
    · have : (n % m + (-n) % m - m) % m = 0 := by rw [Int.sub_emod, hd]; simp
      rw [Int.emod_eq_of_lt (by omega) (by omega)] at this; omega
/-- The remainder as Go takes it, and the place. -/
theorem place_of (n m : Int) (hm : 1 ≤ m) : -m < n.tmod m ∧ n.tmod m < m ∧ (0 ≤ n.tmod m → n.tmod m = ((n % m).toNat : Int)) ∧ (n.tmod m < 0 → n.tmod m + m = ((n % m).toNat : Int)) := by
  have e3 : 0 ≤ n % m := Int.emod_nonneg _ (by omega)
  have e4 : n % m < m := Int.emod_lt_of_pos _ (by omega)
  by_cases hn : 0 ≤ n
  · have := Int.tmod_eq_emod_of_nonneg (b := m) hn
    omega
  · have := tmod_neg n m (by omega) hm
    split at this <;> omega

abbrev fwO (kind n : Int) (t : ByteArray) : Obj := .cells #[.int .i64 kind, .int .i64 n, .string t] 37
section
variable {W : Base} {w : World}
theorem st_comes {X S P K N : Nat} {x : Sm} {pv sv : Value} (H : St W w (smL X S P K N x pv sv)) (hx : x.ok) (hbl : x.bag.length ≤ 536870912) (p : Int × Pkt) (hp : PktOk x.s.said x.w.next x.s.texts p.2) :
    Calls Tryz.prog 28 #[ptr X, dgV (pkDg p)] w fun e w' => ∃ sv', e = .returned (.tuple #[]) ∧ St W w' (smL X S P K N (x.comes p.2) pv sv') := by
  obtain ⟨num, q⟩ := p
  cases q with
  | chunk ix t => exact st_comes_chunk H hx hbl num ix t hp
  | ack c =>
    refine (st_comes_ack H num c ?_).mono ?_
    · have h1 : c ≤ x.w.next := hp
      have := hx.d2; have := hx.d3; have := hx.d4
      omega
    · rintro e w' ⟨rfl, h⟩
      exact ⟨_, rfl, h⟩

set_option maxHeartbeats 6400000 in
set_option maxRecDepth 100000 in
theorem st_does1 {X S P K N : Nat} {x : Sm} {pv sv : Value} (H : St W w (smL X S P K N x pv sv)) (hx : x.ok) (hbl : x.bag.length ≤ 536870912) (n : Int) (t : ByteArray) :
    Calls Tryz.prog 6 #[ptr X, .agg #[.int .i64 1, .int .i64 n, .string t]] w fun e w' => ∃ pv' sv', e = .returned (.tuple #[]) ∧ St W w' (smL X S P K N (x.puts t) pv' sv') := by
  have hbX := H.blk 0 rfl
  have hpl := hid (fun m hm => place_of n m hm)
  have H2 := H.alloc (fwO 1 n t)
  have HLn := hid (show ∀ wx, Fr [] (w.alloc (fwO 1 n t)) wx → Calls Tryz.prog 23 #[ptr N] wx fun e w' => e = .returned (.int .i64 x.bag.length) ∧ wx = w' from fun wx hF => by
    have h := st_nlen (H2.same hF) 3 rfl
    rw [List.length_map] at h
    exact h)
  have HS := hid (show ∀ wx, Fr [] (w.alloc (fwO 1 n t)) wx → wx.cell? ⟨X, 3, none⟩ = some (ptr N) ∧ wx.cell? ⟨w.heap.size, 1, none⟩ = some (.int .i64 n) from fun wx hF => ⟨cell_blk (i := 3) ((H2.same hF).blk 0 rfl) rfl, cell_blk (i := 1) ((H2.same hF).blk 6 rfl) rfl⟩)
  have H2 := hid H2
  have HBL := hid hbl
  have HX := hid hx
  have x0 := cell_blk (i := 0) hbX rfl
  have x1 := cell_blk (i := 1) hbX rfl
  have x3 := cell_blk (i := 3) hbX rfl
  have hg := lt_of_block hbX
  clear H hbX hx hbl
  by_cases he : x.bag.length = 0
  · have hp0 : x.place n = 0 := by unfold Sm.place; rw [if_pos he]
    have b0 : (x.bag.length : Int) = 0 := by omega
    rw [b0] at HLn
    have HP := hid hp0
    clear he hp0 b0
    go_enter Tryz.func6, Tryz.ntmps6
    go_wp2_with fail
    refine (HLn.out _ (Fr.refl _ _)).mono ?_
    rintro e w1 ⟨rfl, rfl⟩
    have HKI := hid (show ((x.place n : Nat) : Int) = 0 from by rw [HP.out]; rfl)
    go_wp2_with fail
    refine (st_puts ((H2.out.same ((Fr.refl _ _))).take 6) HX.out.d4 t).mono ?_
    rintro e w9 ⟨pv9, rfl, H9⟩
    have H9 := hid H9
    go_wp2_with fail
    go_end0
    exact ⟨_, _, rfl, H9.out⟩
  · have b0 : (0 : Int) < x.bag.length := by omega
    have hp0 : x.place n = (n % (x.bag.length : Int)).toNat := by unfold Sm.place; rw [if_neg he]
    obtain ⟨m, hm⟩ : ∃ m : Int, (x.bag.length : Int) = m := ⟨_, rfl⟩
    rw [hm] at HLn b0 hp0
    have hnz : (m == 0) = false := by rw [beq_eq_false_iff_ne]; omega
    have hnz2 : ¬ m = 0 := by omega
    obtain ⟨q1, q2, q3, q4⟩ := hpl.out m (by omega)
    have hmm := hid (show m ≤ 1073741824 from by have := HBL.out; omega)
    rw [← hp0] at q3 q4
    clear hp0 he hm
    by_cases hs : n.tmod m < 0
    · have e4 := hid (q4 hs)
      have hw := hid (show wrap64 (n.tmod m + m) = ((x.place n : Nat) : Int) from by rw [IntWalk.wrap64_in _ (by have := hmm.out; omega)]; exact q4 hs)
      clear q1 q2 q3 q4
      go_enter Tryz.func6, Tryz.ntmps6
      go_wp2_with fail
      refine (HLn.out _ (Fr.refl _ _)).mono ?_
      rintro e w1 ⟨rfl, rfl⟩
      go_wp2_with fail
      refine wp_region_U (S := fun wx : World => wx.cell? ⟨X, 3, none⟩ = some (ptr N) ∧ wx.cell? ⟨w.heap.size, 1, none⟩ = some (.int .i64 n)) 8 (by kernel_rfl) (HS.out _ ((Fr.refl _ _).drew)) (fun hHeld => ?_)
      refine takeU (i := 0) (d := 13) (v := ?_) rfl rfl (by kernel_rfl) (by kernel_rfl) (by kernel_rfl) (by kernel_rfl) (by kernel_rfl) (fun _ _ _ h => h) (Or.inl ⟨by rfl, ?_⟩) hHeld ?_
      rotate_left
      · intro wq hSw; (try dsimp only at hSw); go_simp; all_goals (with_reducible rfl)
      simp only [Act.put, List.setIfInBounds_toArray, List.set_cons_zero, List.set_cons_succ]
      refine takeU (i := 1) (d := 14) (v := ?_) rfl rfl (by kernel_rfl) (by kernel_rfl) (by kernel_rfl) (by kernel_rfl) (by kernel_rfl) (fun _ _ _ h => h) (Or.inl ⟨by rfl, ?_⟩) hHeld ?_
      rotate_left
      · intro wq hSw; (try dsimp only at hSw); go_simp; all_goals (with_reducible rfl)
      simp only [Act.put, List.setIfInBounds_toArray, List.set_cons_zero, List.set_cons_succ]
      refine takeU (i := 2) (d := 15) (v := ?_) rfl rfl (by kernel_rfl) (by kernel_rfl) (by kernel_rfl) (by kernel_rfl) (by kernel_rfl) (fun _ _ _ h => h) (Or.inl ⟨by rfl, ?_⟩) hHeld ?_
      rotate_left
      · intro wq hSw; (try dsimp only at hSw); go_simp; all_goals (with_reducible rfl)
      simp only [Act.put, List.setIfInBounds_toArray, List.set_cons_zero, List.set_cons_succ]
      refine takeU (i := 3) (d := 16) (v := ?_) rfl rfl (by kernel_rfl) (by kernel_rfl) (by kernel_rfl) (by kernel_rfl) (by kernel_rfl) (fun _ _ _ h => h) (Or.inl ⟨by rfl, ?_⟩) hHeld ?_
      rotate_left
      · intro wq hSw; (try dsimp only at hSw); go_simp; all_goals (with_reducible rfl)
      simp only [Act.put, List.setIfInBounds_toArray, List.set_cons_zero, List.set_cons_succ]
      refine takeU (i := 4) (d := 17) (v := ?_) rfl rfl (by kernel_rfl) (by kernel_rfl) (by kernel_rfl) (by kernel_rfl) (by kernel_rfl) (fun _ _ _ h => h) (Or.inl ⟨by rfl, ?_⟩) hHeld ?_
      rotate_left
      · intro wq hSw; (try dsimp only at hSw); go_simp; all_goals (with_reducible rfl)
      simp only [Act.put, List.setIfInBounds_toArray, List.set_cons_zero, List.set_cons_succ]
      refine takeU (i := 5) (d := 18) (v := ?_) rfl rfl (by kernel_rfl) (by kernel_rfl) (by kernel_rfl) (by kernel_rfl) (by kernel_rfl) (fun _ _ _ h => h) (Or.inl ⟨by rfl, ?_⟩) hHeld ?_
      rotate_left
      · intro wq hSw; (try dsimp only at hSw); go_simp; all_goals (with_reducible rfl)
      simp only [Act.put, List.setIfInBounds_toArray, List.set_cons_zero, List.set_cons_succ]
      refine wpAnyU_ready (rs := [6]) (by kernel_rfl) (by simp) ?_
      refine AllReadyU.cons rfl (fun K1 hK => ?_) AllReadyU.nil
      go_simp
      go_at_call 23
      refine (HLn.out _ ((Fr.refl _ _).drew)).mono ?_
      rintro e w9 ⟨rfl, rfl⟩
      go_simp
      refine hK.out _ _ (fun _ => hHeld) (fun _ => ?_)
      clear hK K1
      refine takeU (i := 7) (d := 20) (v := ?_) rfl rfl (by kernel_rfl) (by kernel_rfl) (by kernel_rfl) (by kernel_rfl) (by kernel_rfl) (fun _ _ _ h => h) (Or.inl ⟨by rfl, ?_⟩) hHeld ?_
      rotate_left
      · intro wq hSw; (try dsimp only at hSw); go_simp; all_goals (with_reducible rfl)
      simp only [Act.put, List.setIfInBounds_toArray, List.set_cons_zero, List.set_cons_succ]
      refine wpAnyU_ready (rs := [8]) (by kernel_rfl) (by simp) ?_
      refine AllReadyU.cons rfl (fun K1 hK => ?_) AllReadyU.nil
      go_simp
      refine hK.out _ _ (fun h => absurd rfl h) (fun _ => ?_)
      clear hK K1 hHeld
      refine wpAnyU_done (by kernel_rfl) ?_ _
      go_wp2_with fail
      refine (HLn.out _ ((Fr.refl _ _).drew)).mono ?_
      rintro e w1 ⟨rfl, rfl⟩
      have HKI := hid hw.out.symm
      go_wp2_with fail
      refine (st_puts ((H2.out.same ((Fr.refl _ _).drew)).take 6) HX.out.d4 t).mono ?_
      rintro e w9 ⟨pv9, rfl, H9⟩
      have H9 := hid H9
      go_wp2_with fail
      go_end0
      exact ⟨_, _, rfl, H9.out⟩
    · have e3 := hid (q3 (by omega))
      have hs2 : ¬ n.tmod m < 0 := hs
      clear q1 q2 q3 q4 hs
      go_enter Tryz.func6, Tryz.ntmps6
      go_wp2_with fail
      refine (HLn.out _ (Fr.refl _ _)).mono ?_
      rintro e w1 ⟨rfl, rfl⟩
      go_wp2_with fail
      refine wp_region_U (S := fun wx : World => wx.cell? ⟨X, 3, none⟩ = some (ptr N) ∧ wx.cell? ⟨w.heap.size, 1, none⟩ = some (.int .i64 n)) 8 (by kernel_rfl) (HS.out _ ((Fr.refl _ _).drew)) (fun hHeld => ?_)
      refine takeU (i := 0) (d := 13) (v := ?_) rfl rfl (by kernel_rfl) (by kernel_rfl) (by kernel_rfl) (by kernel_rfl) (by kernel_rfl) (fun _ _ _ h => h) (Or.inl ⟨by rfl, ?_⟩) hHeld ?_
      rotate_left
      · intro wq hSw; (try dsimp only at hSw); go_simp; all_goals (with_reducible rfl)
      simp only [Act.put, List.setIfInBounds_toArray, List.set_cons_zero, List.set_cons_succ]
      refine takeU (i := 1) (d := 14) (v := ?_) rfl rfl (by kernel_rfl) (by kernel_rfl) (by kernel_rfl) (by kernel_rfl) (by kernel_rfl) (fun _ _ _ h => h) (Or.inl ⟨by rfl, ?_⟩) hHeld ?_
      rotate_left
      · intro wq hSw; (try dsimp only at hSw); go_simp; all_goals (with_reducible rfl)
      simp only [Act.put, List.setIfInBounds_toArray, List.set_cons_zero, List.set_cons_succ]
      refine takeU (i := 2) (d := 15) (v := ?_) rfl rfl (by kernel_rfl) (by kernel_rfl) (by kernel_rfl) (by kernel_rfl) (by kernel_rfl) (fun _ _ _ h => h) (Or.inl ⟨by rfl, ?_⟩) hHeld ?_
      rotate_left
      · intro wq hSw; (try dsimp only at hSw); go_simp; all_goals (with_reducible rfl)
      simp only [Act.put, List.setIfInBounds_toArray, List.set_cons_zero, List.set_cons_succ]
      refine takeU (i := 3) (d := 16) (v := ?_) rfl rfl (by kernel_rfl) (by kernel_rfl) (by kernel_rfl) (by kernel_rfl) (by kernel_rfl) (fun _ _ _ h => h) (Or.inl ⟨by rfl, ?_⟩) hHeld ?_
      rotate_left
      · intro wq hSw; (try dsimp only at hSw); go_simp; all_goals (with_reducible rfl)
      simp only [Act.put, List.setIfInBounds_toArray, List.set_cons_zero, List.set_cons_succ]
      refine takeU (i := 4) (d := 17) (v := ?_) rfl rfl (by kernel_rfl) (by kernel_rfl) (by kernel_rfl) (by kernel_rfl) (by kernel_rfl) (fun _ _ _ h => h) (Or.inl ⟨by rfl, ?_⟩) hHeld ?_
      rotate_left
      · intro wq hSw; (try dsimp only at hSw); go_simp; all_goals (with_reducible rfl)
      simp only [Act.put, List.setIfInBounds_toArray, List.set_cons_zero, List.set_cons_succ]
      refine takeU (i := 5) (d := 18) (v := ?_) rfl rfl (by kernel_rfl) (by kernel_rfl) (by kernel_rfl) (by kernel_rfl) (by kernel_rfl) (fun _ _ _ h => h) (Or.inl ⟨by rfl, ?_⟩) hHeld ?_
      rotate_left
      · intro wq hSw; (try dsimp only at hSw); go_simp; all_goals (with_reducible rfl)
      simp only [Act.put, List.setIfInBounds_toArray, List.set_cons_zero, List.set_cons_succ]
      refine wpAnyU_ready (rs := [6]) (by kernel_rfl) (by simp) ?_
      refine AllReadyU.cons rfl (fun K1 hK => ?_) AllReadyU.nil
      go_simp
      go_at_call 23
      refine (HLn.out _ ((Fr.refl _ _).drew)).mono ?_
      rintro e w9 ⟨rfl, rfl⟩
      go_simp
      refine hK.out _ _ (fun _ => hHeld) (fun _ => ?_)
      clear hK K1
      refine takeU (i := 7) (d := 20) (v := ?_) rfl rfl (by kernel_rfl) (by kernel_rfl) (by kernel_rfl) (by kernel_rfl) (by kernel_rfl) (fun _ _ _ h => h) (Or.inl ⟨by rfl, ?_⟩) hHeld ?_
      rotate_left
      · intro wq hSw; (try dsimp only at hSw); go_simp; all_goals (with_reducible rfl)
      simp only [Act.put, List.setIfInBounds_toArray, List.set_cons_zero, List.set_cons_succ]
      refine wpAnyU_ready (rs := [8]) (by kernel_rfl) (by simp) ?_
      refine AllReadyU.cons rfl (fun K1 hK => ?_) AllReadyU.nil
      go_simp
      refine hK.out _ _ (fun h => absurd rfl h) (fun _ => ?_)
      clear hK K1 hHeld
      refine wpAnyU_done (by kernel_rfl) ?_ _
      have HKI := hid e3.out.symm
      go_wp2_with fail
      refine (st_puts ((H2.out.same ((Fr.refl _ _).drew)).take 6) HX.out.d4 t).mono ?_
      rintro e w9 ⟨pv9, rfl, H9⟩
      have H9 := hid H9
      go_wp2_with fail
      go_end0
      exact ⟨_, _, rfl, H9.out⟩
set_option maxHeartbeats 6400000 in
set_option maxRecDepth 100000 in
theorem st_does2 {X S P K N : Nat} {x : Sm} {pv sv : Value} (H : St W w (smL X S P K N x pv sv)) (hx : x.ok) (hbl : x.bag.length ≤ 536870912) (n : Int) (t : ByteArray) :
    Calls Tryz.prog 6 #[ptr X, .agg #[.int .i64 2, .int .i64 n, .string t]] w fun e w' => ∃ pv' sv', e = .returned (.tuple #[]) ∧ St W w' (smL X S P K N x.tick.says pv' sv') := by
  have hbX := H.blk 0 rfl
  have hpl := hid (fun m hm => place_of n m hm)
  have H2 := H.alloc (fwO 2 n t)
  have HLn := hid (show ∀ wx, Fr [] (w.alloc (fwO 2 n t)) wx → Calls Tryz.prog 23 #[ptr N] wx fun e w' => e = .returned (.int .i64 x.bag.length) ∧ wx = w' from fun wx hF => by
    have h := st_nlen (H2.same hF) 3 rfl
    rw [List.length_map] at h
    exact h)
  have HS := hid (show ∀ wx, Fr [] (w.alloc (fwO 2 n t)) wx → wx.cell? ⟨X, 3, none⟩ = some (ptr N) ∧ wx.cell? ⟨w.heap.size, 1, none⟩ = some (.int .i64 n) from fun wx hF => ⟨cell_blk (i := 3) ((H2.same hF).blk 0 rfl) rfl, cell_blk (i := 1) ((H2.same hF).blk 6 rfl) rfl⟩)
  have H2 := hid H2
  have HBL := hid hbl
  have HX := hid hx
  have x0 := cell_blk (i := 0) hbX rfl
  have x1 := cell_blk (i := 1) hbX rfl
  have x3 := cell_blk (i := 3) hbX rfl
  have hg := lt_of_block hbX
  clear H hbX hx hbl
  by_cases he : x.bag.length = 0
  · have hp0 : x.place n = 0 := by unfold Sm.place; rw [if_pos he]
    have b0 : (x.bag.length : Int) = 0 := by omega
    rw [b0] at HLn
    have HP := hid hp0
    clear he hp0 b0
    go_enter Tryz.func6, Tryz.ntmps6
    go_wp2_with fail
    refine (HLn.out _ (Fr.refl _ _)).mono ?_
    rintro e w1 ⟨rfl, rfl⟩
    have HKI := hid (show ((x.place n : Nat) : Int) = 0 from by rw [HP.out]; rfl)
    go_wp2_with fail
    refine (st_stick ((H2.out.same ((Fr.refl _ _))).take 6) 1 rfl (by have := HX.out.tm; have := HX.out.r16; omega)).mono ?_
    rintro e w9 ⟨rfl, H9⟩
    have H9 : St W w9 (smL X S P K N x.tick pv sv) := H9
    have H9 := hid H9
    go_wp2_with fail
    refine (st_says H9.out HX.out.tick HBL.out).mono ?_
    rintro e w10 ⟨rfl, H10⟩
    have H10 := hid H10
    go_wp2_with fail
    go_end0
    exact ⟨_, _, rfl, H10.out⟩
  · have b0 : (0 : Int) < x.bag.length := by omega
    have hp0 : x.place n = (n % (x.bag.length : Int)).toNat := by unfold Sm.place; rw [if_neg he]
    obtain ⟨m, hm⟩ : ∃ m : Int, (x.bag.length : Int) = m := ⟨_, rfl⟩
    rw [hm] at HLn b0 hp0
    have hnz : (m == 0) = false := by rw [beq_eq_false_iff_ne]; omega
    have hnz2 : ¬ m = 0 := by omega
    obtain ⟨q1, q2, q3, q4⟩ := hpl.out m (by omega)
    have hmm := hid (show m ≤ 1073741824 from by have := HBL.out; omega)
    rw [← hp0] at q3 q4
    clear hp0 he hm
    by_cases hs : n.tmod m < 0
    · have e4 := hid (q4 hs)
      have hw := hid (show wrap64 (n.tmod m + m) = ((x.place n : Nat) : Int) from by rw [IntWalk.wrap64_in _ (by have := hmm.out; omega)]; exact q4 hs)
      clear q1 q2 q3 q4
      go_enter Tryz.func6, Tryz.ntmps6
      go_wp2_with fail
      refine (HLn.out _ (Fr.refl _ _)).mono ?_
      rintro e w1 ⟨rfl, rfl⟩
      go_wp2_with fail
      refine wp_region_U (S := fun wx : World => wx.cell? ⟨X, 3, none⟩ = some (ptr N) ∧ wx.cell? ⟨w.heap.size, 1, none⟩ = some (.int .i64 n)) 8 (by kernel_rfl) (HS.out _ ((Fr.refl _ _).drew)) (fun hHeld => ?_)
      refine takeU (i := 0) (d := 13) (v := ?_) rfl rfl (by kernel_rfl) (by kernel_rfl) (by kernel_rfl) (by kernel_rfl) (by kernel_rfl) (fun _ _ _ h => h) (Or.inl ⟨by rfl, ?_⟩) hHeld ?_
      rotate_left
      · intro wq hSw; (try dsimp only at hSw); go_simp; all_goals (with_reducible rfl)
      simp only [Act.put, List.setIfInBounds_toArray, List.set_cons_zero, List.set_cons_succ]
      refine takeU (i := 1) (d := 14) (v := ?_) rfl rfl (by kernel_rfl) (by kernel_rfl) (by kernel_rfl) (by kernel_rfl) (by kernel_rfl) (fun _ _ _ h => h) (Or.inl ⟨by rfl, ?_⟩) hHeld ?_
      rotate_left
      · intro wq hSw; (try dsimp only at hSw); go_simp; all_goals (with_reducible rfl)
      simp only [Act.put, List.setIfInBounds_toArray, List.set_cons_zero, List.set_cons_succ]
      refine takeU (i := 2) (d := 15) (v := ?_) rfl rfl (by kernel_rfl) (by kernel_rfl) (by kernel_rfl) (by kernel_rfl) (by kernel_rfl) (fun _ _ _ h => h) (Or.inl ⟨by rfl, ?_⟩) hHeld ?_
      rotate_left
      · intro wq hSw; (try dsimp only at hSw); go_simp; all_goals (with_reducible rfl)
      simp only [Act.put, List.setIfInBounds_toArray, List.set_cons_zero, List.set_cons_succ]
      refine takeU (i := 3) (d := 16) (v := ?_) rfl rfl (by kernel_rfl) (by kernel_rfl) (by kernel_rfl) (by kernel_rfl) (by kernel_rfl) (fun _ _ _ h => h) (Or.inl ⟨by rfl, ?_⟩) hHeld ?_
      rotate_left
      · intro wq hSw; (try dsimp only at hSw); go_simp; all_goals (with_reducible rfl)
      simp only [Act.put, List.setIfInBounds_toArray, List.set_cons_zero, List.set_cons_succ]
      refine takeU (i := 4) (d := 17) (v := ?_) rfl rfl (by kernel_rfl) (by kernel_rfl) (by kernel_rfl) (by kernel_rfl) (by kernel_rfl) (fun _ _ _ h => h) (Or.inl ⟨by rfl, ?_⟩) hHeld ?_
      rotate_left
      · intro wq hSw; (try dsimp only at hSw); go_simp; all_goals (with_reducible rfl)
      simp only [Act.put, List.setIfInBounds_toArray, List.set_cons_zero, List.set_cons_succ]
      refine takeU (i := 5) (d := 18) (v := ?_) rfl rfl (by kernel_rfl) (by kernel_rfl) (by kernel_rfl) (by kernel_rfl) (by kernel_rfl) (fun _ _ _ h => h) (Or.inl ⟨by rfl, ?_⟩) hHeld ?_
      rotate_left
      · intro wq hSw; (try dsimp only at hSw); go_simp; all_goals (with_reducible rfl)
      simp only [Act.put, List.setIfInBounds_toArray, List.set_cons_zero, List.set_cons_succ]
      refine wpAnyU_ready (rs := [6]) (by kernel_rfl) (by simp) ?_
      refine AllReadyU.cons rfl (fun K1 hK => ?_) AllReadyU.nil
      go_simp
      go_at_call 23
      refine (HLn.out _ ((Fr.refl _ _).drew)).mono ?_
      rintro e w9 ⟨rfl, rfl⟩
      go_simp
      refine hK.out _ _ (fun _ => hHeld) (fun _ => ?_)
      clear hK K1
      refine takeU (i := 7) (d := 20) (v := ?_) rfl rfl (by kernel_rfl) (by kernel_rfl) (by kernel_rfl) (by kernel_rfl) (by kernel_rfl) (fun _ _ _ h => h) (Or.inl ⟨by rfl, ?_⟩) hHeld ?_
      rotate_left
      · intro wq hSw; (try dsimp only at hSw); go_simp; all_goals (with_reducible rfl)
      simp only [Act.put, List.setIfInBounds_toArray, List.set_cons_zero, List.set_cons_succ]
      refine wpAnyU_ready (rs := [8]) (by kernel_rfl) (by simp) ?_
      refine AllReadyU.cons rfl (fun K1 hK => ?_) AllReadyU.nil
      go_simp
      refine hK.out _ _ (fun h => absurd rfl h) (fun _ => ?_)
      clear hK K1 hHeld
      refine wpAnyU_done (by kernel_rfl) ?_ _
      go_wp2_with fail
      refine (HLn.out _ ((Fr.refl _ _).drew)).mono ?_
      rintro e w1 ⟨rfl, rfl⟩
      have HKI := hid hw.out.symm
      go_wp2_with fail
      refine (st_stick ((H2.out.same ((Fr.refl _ _).drew)).take 6) 1 rfl (by have := HX.out.tm; have := HX.out.r16; omega)).mono ?_
      rintro e w9 ⟨rfl, H9⟩
      have H9 : St W w9 (smL X S P K N x.tick pv sv) := H9
      have H9 := hid H9
      go_wp2_with fail
      refine (st_says H9.out HX.out.tick HBL.out).mono ?_
      rintro e w10 ⟨rfl, H10⟩
      have H10 := hid H10
      go_wp2_with fail
      go_end0
      exact ⟨_, _, rfl, H10.out⟩
    · have e3 := hid (q3 (by omega))
      have hs2 : ¬ n.tmod m < 0 := hs
      clear q1 q2 q3 q4 hs
      go_enter Tryz.func6, Tryz.ntmps6
      go_wp2_with fail
      refine (HLn.out _ (Fr.refl _ _)).mono ?_
      rintro e w1 ⟨rfl, rfl⟩
      go_wp2_with fail
      refine wp_region_U (S := fun wx : World => wx.cell? ⟨X, 3, none⟩ = some (ptr N) ∧ wx.cell? ⟨w.heap.size, 1, none⟩ = some (.int .i64 n)) 8 (by kernel_rfl) (HS.out _ ((Fr.refl _ _).drew)) (fun hHeld => ?_)
      refine takeU (i := 0) (d := 13) (v := ?_) rfl rfl (by kernel_rfl) (by kernel_rfl) (by kernel_rfl) (by kernel_rfl) (by kernel_rfl) (fun _ _ _ h => h) (Or.inl ⟨by rfl, ?_⟩) hHeld ?_
      rotate_left
      · intro wq hSw; (try dsimp only at hSw); go_simp; all_goals (with_reducible rfl)
      simp only [Act.put, List.setIfInBounds_toArray, List.set_cons_zero, List.set_cons_succ]
      refine takeU (i := 1) (d := 14) (v := ?_) rfl rfl (by kernel_rfl) (by kernel_rfl) (by kernel_rfl) (by kernel_rfl) (by kernel_rfl) (fun _ _ _ h => h) (Or.inl ⟨by rfl, ?_⟩) hHeld ?_
      rotate_left
      · intro wq hSw; (try dsimp only at hSw); go_simp; all_goals (with_reducible rfl)
      simp only [Act.put, List.setIfInBounds_toArray, List.set_cons_zero, List.set_cons_succ]
      refine takeU (i := 2) (d := 15) (v := ?_) rfl rfl (by kernel_rfl) (by kernel_rfl) (by kernel_rfl) (by kernel_rfl) (by kernel_rfl) (fun _ _ _ h => h) (Or.inl ⟨by rfl, ?_⟩) hHeld ?_
      rotate_left
      · intro wq hSw; (try dsimp only at hSw); go_simp; all_goals (with_reducible rfl)
      simp only [Act.put, List.setIfInBounds_toArray, List.set_cons_zero, List.set_cons_succ]
      refine takeU (i := 3) (d := 16) (v := ?_) rfl rfl (by kernel_rfl) (by kernel_rfl) (by kernel_rfl) (by kernel_rfl) (by kernel_rfl) (fun _ _ _ h => h) (Or.inl ⟨by rfl, ?_⟩) hHeld ?_
      rotate_left
      · intro wq hSw; (try dsimp only at hSw); go_simp; all_goals (with_reducible rfl)
      simp only [Act.put, List.setIfInBounds_toArray, List.set_cons_zero, List.set_cons_succ]
      refine takeU (i := 4) (d := 17) (v := ?_) rfl rfl (by kernel_rfl) (by kernel_rfl) (by kernel_rfl) (by kernel_rfl) (by kernel_rfl) (fun _ _ _ h => h) (Or.inl ⟨by rfl, ?_⟩) hHeld ?_
      rotate_left
      · intro wq hSw; (try dsimp only at hSw); go_simp; all_goals (with_reducible rfl)
      simp only [Act.put, List.setIfInBounds_toArray, List.set_cons_zero, List.set_cons_succ]
      refine takeU (i := 5) (d := 18) (v := ?_) rfl rfl (by kernel_rfl) (by kernel_rfl) (by kernel_rfl) (by kernel_rfl) (by kernel_rfl) (fun _ _ _ h => h) (Or.inl ⟨by rfl, ?_⟩) hHeld ?_
      rotate_left
      · intro wq hSw; (try dsimp only at hSw); go_simp; all_goals (with_reducible rfl)
      simp only [Act.put, List.setIfInBounds_toArray, List.set_cons_zero, List.set_cons_succ]
      refine wpAnyU_ready (rs := [6]) (by kernel_rfl) (by simp) ?_
      refine AllReadyU.cons rfl (fun K1 hK => ?_) AllReadyU.nil
      go_simp
      go_at_call 23
      refine (HLn.out _ ((Fr.refl _ _).drew)).mono ?_
      rintro e w9 ⟨rfl, rfl⟩
      go_simp
      refine hK.out _ _ (fun _ => hHeld) (fun _ => ?_)
      clear hK K1
      refine takeU (i := 7) (d := 20) (v := ?_) rfl rfl (by kernel_rfl) (by kernel_rfl) (by kernel_rfl) (by kernel_rfl) (by kernel_rfl) (fun _ _ _ h => h) (Or.inl ⟨by rfl, ?_⟩) hHeld ?_
      rotate_left
      · intro wq hSw; (try dsimp only at hSw); go_simp; all_goals (with_reducible rfl)
      simp only [Act.put, List.setIfInBounds_toArray, List.set_cons_zero, List.set_cons_succ]
      refine wpAnyU_ready (rs := [8]) (by kernel_rfl) (by simp) ?_
      refine AllReadyU.cons rfl (fun K1 hK => ?_) AllReadyU.nil
      go_simp
      refine hK.out _ _ (fun h => absurd rfl h) (fun _ => ?_)
      clear hK K1 hHeld
      refine wpAnyU_done (by kernel_rfl) ?_ _
      have HKI := hid e3.out.symm
      go_wp2_with fail
      refine (st_stick ((H2.out.same ((Fr.refl _ _).drew)).take 6) 1 rfl (by have := HX.out.tm; have := HX.out.r16; omega)).mono ?_
      rintro e w9 ⟨rfl, H9⟩
      have H9 : St W w9 (smL X S P K N x.tick pv sv) := H9
      have H9 := hid H9
      go_wp2_with fail
      refine (st_says H9.out HX.out.tick HBL.out).mono ?_
      rintro e w10 ⟨rfl, H10⟩
      have H10 := hid H10
      go_wp2_with fail
      go_end0
      exact ⟨_, _, rfl, H10.out⟩

end

end Go.Proofs.YtkiccbjngokpjaaGreat
