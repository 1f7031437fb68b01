/-
  Merged, in build order: T6 S4 S6.
-/
import Derived.Test.YtmgnekjhlfghaaaGreatM20
import Derived.Test.YtmgnekjhlfghaaaGreatM1
import Derived.Test.YtmgnekjhlfghaaaGreatM4
import Derived.Test.YtmgnekjhlfghaaaGreatM19
import Derived.Test.YtmgnekjhlfghaaaGreatM17
/-
  The document's state: its lists, made anew.
-/
namespace Go.Proofs.YtmgnekjhlfghaaaGreat
open Go.RowKit
set_option linter.unusedVariables false
set_option linter.unusedSimpArgs false

section
variable {W : Base} {w : World} {R : List Thing}
theorem perm_mem {α : Type _} {x : α} : ∀ {L : List α}, x ∈ L → ∃ B, L.Perm (x :: B)
  | y :: L, h => by
    rcases List.mem_cons.1 h with rfl | h
    · exact ⟨L, List.Perm.refl _⟩
    · obtain ⟨B, hB⟩ := perm_mem h
      exact ⟨y :: B, (hB.cons y).trans (List.Perm.swap _ _ _)⟩
theorem St.lastOf {A L : List Thing} {x : Thing} (H : St W w (A ++ L)) (hx : x ∈ L) : St W w (A ++ [x]) := by
  obtain ⟨B, hB⟩ := perm_mem hx
  refine H.sub (B := B) ?_
  rw [List.append_assoc]
  exact List.Perm.append_left _ hB
theorem perm_replT {α : Type _} (A : α) : ∀ (R : List α) (i : Nat), i < R.length → ∃ B, (R ++ [A]).Perm (R.set i A ++ [B])
  | [], i, h => by simp at h
  | x :: R, 0, h => ⟨x, by
    show (x :: (R ++ [A])).Perm (A :: (R ++ [x]))
    exact ((List.perm_append_comm (l₁ := R) (l₂ := [A])).cons x).trans ((List.Perm.swap _ _ _).trans ((List.perm_append_comm (l₁ := [x]) (l₂ := R)).cons A))⟩
  | x :: R, i + 1, h => by
    obtain ⟨B, hB⟩ := perm_replT A R i (by simpa using h)
    exact ⟨B, hB.cons x⟩
theorem St.replT {A : Thing} (H : St W w (R ++ [A])) (i : Nat) (h : i < R.length) : St W w (R.set i A) := by
  obtain ⟨B, hB⟩ := perm_replT A R i h
  exact H.sub hB
theorem set_behind {α : Type _} (R T : List α) (k : Nat) (A : α) : (R ++ T).set (R.length + k) A = R ++ T.set k A := by
  rw [List.set_append_right _ _ (by omega), Nat.add_sub_cancel_left]
/-- A row that is read alone, as its list. -/
theorem St.roLay {α : Type} (L : Lay α) (H : St W w R) (i : Nat) {e : TypeId} {a : Option Addr} {c : Nat} {l : List α} (hi : R[i]? = some (RoT e L.sz (.slice a l.length c) l.length (L.cells l))) : In w L.sz a l.length c (L.at_ l) := by
  obtain ⟨a', c', h1, h2, _⟩ := ownsRow_In (H.roRow i hi) (L.at_ l) (fun j hj => L.get l j hj)
  cases h1
  exact h2
/-- An empty row is made. -/
theorem St.newRow (H : St W w R) (e : TypeId) (size : Nat) : St W (w.alloc (.cells #[] e)) (R ++ [RowT e size (.slice (some ⟨w.heap.size, 0, none⟩) 0 0) 0 []]) :=
  H.new (A := Row1 e size (.slice (some ⟨w.heap.size, 0, none⟩) 0 0) 0 []) (F := [w.heap.size]) ((Fr.refl _ _).alloc _) inferInstance ⟨rfl, ⟨by simp, Or.inr ⟨_, _, #[], rfl, Nat.zero_le _, blk_alloc_at _ _ _ rfl, by simp, by decide, by simp, by simp⟩⟩⟩ (by simp)
variable {X Q : Nat} {q : QS} {res : Int} {pv lv : Value} {progs : List ByteArray} {ll : List (List ByteArray × TS)}
/-- The programs are another list. -/
theorem St.xsProgs {L : List Thing} {v : Value} {n : Nat} {progs' : List ByteArray} (H : St W w ((R ++ xsL X Q q res pv progs lv ll) ++ L)) (k : Nat) (hk : L[k]? = some (RowT 9 1 v n (sL.cells progs'))) (hn : n = progs'.length) :
    St W (w.setCell ⟨X, 2, none⟩ v) (R ++ xsL X Q q res v progs' lv ll) := by
  subst hn
  have h1 := H.ro ((R ++ xsL X Q q res pv progs lv ll).length + k) (by rw [get_behind]; exact hk)
  rw [set_behind] at h1
  have h2 := h1.lastOf (x := RoT 9 1 v progs'.length (sL.cells progs')) (List.mem_of_getElem? (List.getElem?_set_self (lt_of_get hk)))
  have h3 := h2.replT (R.length + 2) (by simp [xsL])
  rw [set_behind] at h3
  have h4 := h3.setBlk (R.length + 0) (by rw [get_behind]; rfl) 2 v
  rw [set_behind] at h4
  exact h4
theorem perm_xs {α : Type _} {A G L N B : List α} {o x : α} (h : L.Perm (x :: B)) : (A ++ (o :: G) ++ L ++ N).Perm ((A ++ (x :: N)) ++ (o :: G ++ B)) := by
  rw [List.append_assoc, List.append_assoc, List.append_assoc]
  refine List.Perm.append_left _ ?_
  refine (List.Perm.append_left _ (h.append_right _)).trans ?_
  show ((o :: G) ++ (x :: (B ++ N))).Perm (x :: (N ++ ((o :: G) ++ B)))
  refine List.perm_middle.trans (List.Perm.cons _ ?_)
  rw [← List.append_assoc]
  exact List.perm_append_comm
/-- The logs are another list. -/
theorem St.xsLogs {L : List Thing} {v : Value} {n : Nat} {ll' : List (List ByteArray × TS)} (H : St W w ((R ++ xsL X Q q res pv progs lv ll) ++ L)) (k : Nat) (hk : L[k]? = some (RowT 41 1 v n (tL.cells ll'))) (hn : n = ll'.length) (hN : ∀ x, x ∈ ll' → lgR x ∈ ll.map lgR ++ L) :
    St W (w.setCell ⟨X, 3, none⟩ v) (R ++ xsL X Q q res pv progs v ll') := by
  subst hn
  have h1 := H.roAll (ll'.map lgR) (fun A hA => by
    obtain ⟨x, hx, rfl⟩ := List.mem_map.1 hA
    refine ⟨?_, ⟨_, _, _, _, _, rfl⟩⟩
    have := hN x hx
    simp only [xsL, List.mem_append] at this ⊢
    rcases this with h | h
    · exact .inl (.inr (.inr h))
    · exact .inr h)
  have h2 := h1.ro ((R ++ xsL X Q q res pv progs lv ll).length + k) (by rw [List.append_assoc, get_behind, List.getElem?_append_left (lt_of_get hk)]; exact hk)
  rw [List.append_assoc, set_behind, List.set_append_left _ _ (lt_of_get hk), ← List.append_assoc] at h2
  have hm : RoT 41 1 v ll'.length (tL.cells ll') ∈ L.set k (RoT 41 1 v ll'.length (tL.cells ll')) := List.mem_of_getElem? (List.getElem?_set_self (lt_of_get hk))
  obtain ⟨B', hp⟩ := perm_mem hm
  have h3 : St W w (R ++ ([BlkT X (xO X Q res pv lv), XqT Q q, RoT 9 1 pv progs.length (sL.cells progs)] ++ RoT 41 1 v ll'.length (tL.cells ll') :: ll'.map lgR)) := by
    refine h2.sub (B := RoT 41 1 lv ll.length (tL.cells ll) :: ll.map lgR ++ B') ?_
    have := perm_xs (A := R ++ [BlkT X (xO X Q res pv lv), XqT Q q, RoT 9 1 pv progs.length (sL.cells progs)]) (G := ll.map lgR) (N := ll'.map lgR) (o := RoT 41 1 lv ll.length (tL.cells ll)) hp
    simpa [xsL] using this
  have h4 := h3.setBlk (R.length + 0) (by rw [get_behind]; rfl) 3 v
  rw [set_behind] at h4
  exact h4
end
end Go.Proofs.YtmgnekjhlfghaaaGreat

/-
  state: Clone, New.
-/
namespace Go.Proofs.YtmgnekjhlfghaaaGreat
open Go.RowKit
set_option linter.unusedVariables false
set_option linter.unusedSimpArgs false

section
variable {W : Base} {w : World} {R : List Thing}
variable {S Q : Nat} {q : QS} {res : Int} {pv lv : Value} {progs : List ByteArray} {ll : List (List ByteArray × TS)}

/-- Clone's new things. -/
def nwT (C X : Nat) (q : QS) (res : Int) (pv : Value) (progs : List ByteArray) (lv : Value) (lk : List (List ByteArray × TS)) (k : Nat) : List Thing :=
  [QkT C q, RowT 9 1 pv progs.length (sL.cells progs), RowT 41 1 lv lk.length (tL.cells lk), BlkT X (.cells #[.pointer (some ⟨C, 0, none⟩), .int .i64 res, pv, lv] 75)] ++ (lk.take k).map fun x => own (lg1 x)

/-- A state whose parts stand in the middle, and another one's behind it. -/
theorem St.nwEnd {i : Nat} {v : SV} {C X : Nat} {pv' lv' : Value} {lk : List (List ByteArray × TS)} (hi : R[i]? = some (SkT S v)) (hv : v = ⟨q, res, progs, ll.map (·.1)⟩) (hm : lk.map (·.1) = ll.map (·.1))
    (H : St W w ((R.set i NilT ++ skL S Q q res pv progs lv ll) ++ nwT C X q res pv' progs lv' lk lk.length)) : St W w (R ++ [SkT X v]) := by
  have hil := lt_of_get hi
  have h1 : St W w ((R.set i NilT ++ skL S Q q res pv progs lv ll) ++ skL X C q res pv' progs lv' lk) := by
    refine H.perm (List.Perm.append_left _ ?_)
    unfold nwT skL
    rw [List.take_length]
    refine List.Perm.append_right _ ?_
    exact (List.perm_append_comm (l₁ := [QkT C q, RowT 9 1 pv' progs.length (sL.cells progs), RowT 41 1 lv' lk.length (tL.cells lk)]) (l₂ := [BlkT X (.cells #[.pointer (some ⟨C, 0, none⟩), .int .i64 res, pv', lv'] 75)]))
  have h2 := h1.skEnd
  rw [hm, ← hv] at h2
  have h3 : St W w ((R.set i NilT ++ [SkT X v]) ++ skL S Q q res pv progs lv ll) := h2.perm (by
    rw [List.append_assoc, List.append_assoc]
    exact List.Perm.append_left _ List.perm_append_comm)
  have h4 : St W w (((R ++ [SkT X v]).set i NilT) ++ skL S Q q res pv progs lv ll) := by
    rw [List.set_append_left _ _ hil]; exact h3
  have h5 := h4.skBack (by rw [List.length_append]; omega)
  rw [← hv] at h5
  rw [List.set_append_left _ _ hil, things_set_self hi] at h5
  exact h5

theorem set_self {α : Type} {l : List α} {k : Nat} {a : α} (h : l[k]? = some a) : l.set k a = l := by
  apply List.ext_getElem?
  intro j
  by_cases hj : k = j
  · subst hj; rw [List.getElem?_set_self (List.getElem?_eq_some_iff.1 h).1, h]
  · rw [List.getElem?_set_ne hj]
theorem nw_row {T : List Thing} {C X : Nat} {lk : List (List ByteArray × TS)} {k : Nat} : (T ++ nwT C X q res pv progs lv lk k)[T.length + 2]? = some (RowT 41 1 lv lk.length (tL.cells lk)) := by rw [get_behind]; rfl
theorem nw_row' {T : List Thing} {C X n : Nat} {lk : List (List ByteArray × TS)} {k : Nat} (h : lk.length = n) : (T ++ nwT C X q res pv progs lv lk k)[T.length + 2]? = some (RowT 41 1 lv n (tL.cells lk)) := by subst h; exact nw_row
theorem nw_blk {T : List Thing} {C X : Nat} {lk : List (List ByteArray × TS)} {k : Nat} : (T ++ nwT C X q res pv progs lv lk k)[T.length + 3]? = some (BlkT X (.cells #[.pointer (some ⟨C, 0, none⟩), .int .i64 res, pv, lv] 75)) := by rw [get_behind]; rfl

/-- One more log is the clone's own. -/
theorem St.nwStep {T : List Thing} {C X g lc : Nat} {lk : List (List ByteArray × TS)} {k : Nat} {x : List ByteArray × TS} {a' : Option Addr} {c' : Nat} (hk : k < lk.length) (hx : (tL.nth lk k).1 = x.1)
    (H : St W w ((T ++ nwT C X q res pv progs (.slice (some ⟨g, 0, none⟩) lk.length lc) lk k) ++ [RowT 9 1 (.slice a' x.1.length c') x.1.length (sL.cells x.1)])) :
    St W (w.setCell ⟨g, k, none⟩ (.slice a' x.1.length c')) (T ++ nwT C X q res pv progs (.slice (some ⟨g, 0, none⟩) lk.length lc) (lk.set k (x.1, ⟨a', c'⟩)) (k + 1)) := by
  have h1 := H.setRowCell (g := g) (T.length + 2) (get_l nw_row) k (.slice a' x.1.length c')
  have e1 : (tL.cells lk).set k (.slice a' x.1.length c') = tL.cells (lk.set k (x.1, ⟨a', c'⟩)) := by
    have := tL.set_cell lk k 0 (.slice a' x.1.length c') (x.1, ⟨a', c'⟩) hk (by decide) (by simp [tL])
    rw [show k * tL.sz + 0 = k by show k * 1 + 0 = k; omega] at this
    exact this
  rw [e1, List.set_append_left _ _ (by simp [nwT]), List.set_append_right _ _ (by omega), Nat.add_sub_cancel_left, List.append_assoc] at h1
  have e2 : ((lk.set k (x.1, (⟨a', c'⟩ : TS))).take (k + 1)) = lk.take k ++ [(x.1, ⟨a', c'⟩)] := by
    rw [List.take_add_one, List.take_set_of_le (Nat.le_refl _)]
    simp [hk]
  unfold nwT
  rw [e2, List.length_set]
  simp only [List.map_append, List.map_cons, List.map_nil]
  have h2 : lg1 (x.1, (⟨a', c'⟩ : TS)) = Row1 9 1 (.slice a' x.1.length c') x.1.length (sL.cells x.1) := rfl
  rw [h2]
  simpa [nwT, RowT] using h1

set_option maxHeartbeats 4000000 in
set_option maxRecDepth 100000 in
theorem st_sclone (H : St W w R) (i : Nat) {v : SV} (hi : R[i]? = some (SkT S v)) (hv : v.wf) :
    Calls Tryz.prog 25 #[.pointer (some ⟨S, 0, none⟩)] w fun e w' => ∃ X, e = .returned (.pointer (some ⟨X, 0, none⟩)) ∧ St W w' (R ++ [SkT X v]) := by
  have hi0 := hid hi
  have hq8 := hv.q.n
  have hnp := hv.np
  have hnl := hv.nl
  obtain ⟨vv, hvv⟩ : ∃ vv, v = vv := ⟨_, rfl⟩
  rw [hvv] at hi0
  have hvv := hid hvv
  have hil := lt_of_get hi
  obtain ⟨Q, pv, lv, ll, hll, H1⟩ := H.sk i hi
  obtain ⟨q, res, progs, logs⟩ := v
  simp only at hll H1
  subst hll
  have b1 := H1.skS
  have s0 := cell_blk (i := 0) b1 rfl
  have s1 := cell_blk (i := 1) b1 rfl
  have s2 := cell_blk (i := 2) b1 rfl
  have s3 := cell_blk (i := 3) b1 rfl
  have f1 := free_blk (i := 1) b1
  have f2 := free_blk (i := 2) b1
  have f3 := free_blk (i := 3) b1
  have hlS := lt_of_block b1
  have H1 := hid H1
  clear H hi b1
  simp only [List.length_map] at hq8 hnp hnl
  obtain ⟨pa, pc, rfl, hp0, hp1, hp2, _⟩ := H1.out.rowShape ((R.set i NilT).length + 2) sk_get2
  obtain ⟨la, lc, rfl, hl0, hl1, hl2, _⟩ := H1.out.rowShape ((R.set i NilT).length + 3) sk_get3
  have hQ := hid (st_qclone H1.out.drew ((R.set i NilT).length + 1) sk_get1 hq8)
  have HNP := hid (show progs.length ≤ 1000 by omega)
  have HNL := hid (show ll.length ≤ 1000 by omega)
  have hn8 : (ll.length : Int) ≤ 8 := by omega
  clear hp0 hp1 hp2 hl0 hl1 hl2 f1 f2 f3 hnp hnl hq8
  have b1 := H1.out.drew.skS
  have hNow := And.intro (cell_blk (i := 0) b1 rfl) (And.intro (cell_blk (i := 1) b1 rfl) (And.intro (cell_blk (i := 2) b1 rfl) (cell_blk (i := 3) b1 rfl)))
  clear b1
  go_enter Tryz.func25, Tryz.ntmps25
  go_wp2_with fail
  go_region_held3 (fun wx : World => wx.cell? ⟨S, 0, none⟩ = some (.pointer (some ⟨Q, 0, none⟩)) ∧ wx.cell? ⟨S, 1, none⟩ = some (.int .i64 res) ∧ wx.cell? ⟨S, 2, none⟩ = some (.slice pa progs.length pc) ∧ wx.cell? ⟨S, 3, none⟩ = some (.slice la ll.length lc)) ((first | exact hNow | exact ⟨(World.cell?_alloc_lt _ _ _ (World.block_lt_of_cell? _ _ hNow.1)).trans hNow.1, (World.cell?_alloc_lt _ _ _ (World.block_lt_of_cell? _ _ hNow.2.1)).trans hNow.2.1, (World.cell?_alloc_lt _ _ _ (World.block_lt_of_cell? _ _ hNow.2.2.1)).trans hNow.2.2.1, (World.cell?_alloc_lt _ _ _ (World.block_lt_of_cell? _ _ hNow.2.2.2)).trans hNow.2.2.2⟩))
    (first
    | (go_at_call 62; refine hQ.out.mono ?_; rintro e1 w2 ⟨C, rfl, hF, F, hK, hfr⟩; have H2 := hid (H1.out.drew.new (A := Qk1 C q) hF inferInstance hK hfr); have b1 := (H2.out.drop).skS; have hNow := And.intro (cell_blk (i := 0) b1 rfl) (And.intro (cell_blk (i := 1) b1 rfl) (And.intro (cell_blk (i := 2) b1 rfl) (cell_blk (i := 3) b1 rfl))); clear b1 hF hK hfr)
    | (go_at_call 64; refine (st_clone_gt H3.out ((R.set i NilT).length + 3) (get_l (get_l sk_get3)) HNL.out).mono ?_; rintro e1 w4 ⟨la', lc', rfl, H4⟩; have b1 := (H4.drop.drop.drop).skS; have hNow := And.intro (cell_blk (i := 0) b1 rfl) (And.intro (cell_blk (i := 1) b1 rfl) (And.intro (cell_blk (i := 2) b1 rfl) (cell_blk (i := 3) b1 rfl))); have H4 := hid H4; clear b1)
    | (go_at_call 63; refine (st_clone_gs H2.out ((R.set i NilT).length + 2) (get_l sk_get2) HNP.out).mono ?_; rintro e1 w3 ⟨pa', pc', rfl, H3⟩; have b1 := (H3.drop.drop).skS; have hNow := And.intro (cell_blk (i := 0) b1 rfl) (And.intro (cell_blk (i := 1) b1 rfl) (And.intro (cell_blk (i := 2) b1 rfl) (cell_blk (i := 3) b1 rfl))); have H3 := hid H3; clear b1))
  have H5 := H4.out.alloc (.cells #[.pointer (some ⟨C, 0, none⟩), .int .i64 res, .slice pa' progs.length pc', .slice la' ll.length lc'] 75)
  obtain ⟨X, hX⟩ : ∃ X, X = w4.heap.size := ⟨_, rfl⟩
  rw [← hX] at H5 ⊢
  generalize w4.alloc (.cells #[.pointer (some ⟨C, 0, none⟩), .int .i64 res, .slice pa' progs.length pc', .slice la' ll.length lc'] 75) = w5 at H5 ⊢
  have H6 : St W w5 ((R.set i NilT ++ skL S Q q res (.slice pa progs.length pc) progs (.slice la ll.length lc) ll) ++ nwT C X q res (.slice pa' progs.length pc') progs (.slice la' ll.length lc') ll 0) := by
    simpa [nwT, QkT] using H5
  have x3 := cell_blk (i := 3) (H6.blk ((R.set i NilT ++ skL S Q q res (.slice pa progs.length pc) progs (.slice la ll.length lc) ll).length + 3) nw_blk) rfl
  have H6 := hid H6
  have HLG := hid (show ∀ y, y ∈ ll → y.1.length ≤ 1000 from fun y hy => by have := (hv.lg y.1 (List.mem_map_of_mem hy)).1; omega)
  have HVV := hid hvv
  clear H5 hX hNow s0 s1 s2 s3 hlS hv
  go_wp2_with fail
  go_loopw [33] (fun iv wr => ∃ (k : Nat) (lk : List (List ByteArray × TS)), k ≤ ll.length ∧ iv = .int .i64 k ∧ lk.map (·.1) = ll.map (·.1) ∧ (∀ j, k ≤ j → lk[j]? = ll[j]?) ∧ St W wr ((R.set i NilT ++ skL S Q q res (.slice pa progs.length pc) progs (.slice la ll.length lc) ll) ++ nwT C X q res (.slice pa' progs.length pc') progs (.slice la' ll.length lc') lk k)) (fun iv _ => ll.length - (intOf iv).toNat)
  case atStart => exact ⟨0, ll, Nat.zero_le _, rfl, rfl, fun _ _ => rfl, H6.out⟩
  case round =>
    obtain ⟨k, lk, hk, rfl, hlk, hlk2, H⟩ := hrel
    have hlen : lk.length = ll.length := by have := congrArg List.length hlk; simpa using this
    by_cases hlt : k < ll.length
    · obtain ⟨y, hy⟩ : ∃ y, ll[k]? = some y := ⟨_, List.getElem?_eq_getElem hlt⟩
      have hyk : lk[k]? = some y := (hlk2 k (Nat.le_refl _)).trans hy
      have hyn : tL.nth lk k = y := by have := tL.nth_get (l := lk) (k := k) (by omega); rw [hyk] at this; exact (Option.some.inj this).symm
      obtain ⟨_, _, h1, _, _, _, hsm⟩ := H.rowShape ((R.set i NilT ++ skL S Q q res (.slice pa progs.length pc) progs (.slice la ll.length lc) ll).length + 2) (nw_row' hlen)
      simp only [Value.slice.injEq] at h1
      obtain ⟨g, hg⟩ := hsm (by omega)
      rw [← h1.1] at hg
      subst hg
      have r0 := ownsRow_cell (H.row ((R.set i NilT ++ skL S Q q res (.slice pa progs.length pc) progs (.slice la ll.length lc) ll).length + 2) (nw_row' hlen)) k (gt_get (by omega))
      rw [hyn] at r0
      have x3 := cell_blk (i := 3) (v := .slice (some ⟨g, 0, none⟩) ll.length lc') (H.blk ((R.set i NilT ++ skL S Q q res (.slice pa progs.length pc) progs (.slice la ll.length lc) ll).length + 3) nw_blk) rfl
      have r1 := r0.1
      have HW := hid (And.intro hlk (And.intro hlk2 (And.intro hlen (And.intro hy (And.intro hyn hlt)))))
      have hlt' : (k : Int) < ll.length := by omega
      have hk0 : (0 : Int) ≤ k := by omega
      have hS0 : wr.drew.cell? ⟨X, 3, none⟩ = some (.slice (some ⟨g, 0, none⟩) ll.length lc') := x3
      have HCL := hid (st_clone_gs H.drew ((R.set i NilT).length + (4 + k)) (get_l (sk_getL hy)) (HLG.out y (List.mem_of_getElem? hy)))
      have H := hid H
      clear h1 hsm r0 hlk hlk2 hlen hy hyk hyn hlt hk
      go_wp2_with fail
      refine wp_region_held_drew (S := fun wx : World => wx.cell? ⟨X, 3, none⟩ = some (.slice (some ⟨g, 0, none⟩) ll.length lc')) (by kernel_rfl) hS0 (fun hHeld => ?_)
      refine takeD (i := 0) (d := 36) (v := ?_) rfl rfl (by kernel_rfl) (by kernel_rfl) (by kernel_rfl) (fun _ _ _ h => h) (Or.inl ⟨by rfl, ?_⟩) hHeld ?_
      rotate_left
      · intro wq hSw; (try dsimp only at hSw); go_simp; all_goals (with_reducible rfl)
      simp only [Act.put, List.setIfInBounds_toArray, List.set_cons_zero, List.set_cons_succ]
      refine takeD (i := 1) (d := 37) (v := ?_) rfl rfl (by kernel_rfl) (by kernel_rfl) (by kernel_rfl) (fun _ _ _ h => h) (Or.inl ⟨by rfl, ?_⟩) hHeld ?_
      rotate_left
      · intro wq hSw; (try dsimp only at hSw); go_simp; all_goals (with_reducible rfl)
      simp only [Act.put, List.setIfInBounds_toArray, List.set_cons_zero, List.set_cons_succ]
      refine takeD (i := 2) (d := 38) (v := ?_) rfl rfl (by kernel_rfl) (by kernel_rfl) (by kernel_rfl) (fun _ _ _ h => h) (Or.inl ⟨by rfl, ?_⟩) hHeld ?_
      rotate_left
      · intro wq hSw; (try dsimp only at hSw); go_simp; all_goals (with_reducible rfl)
      simp only [Act.put, List.setIfInBounds_toArray, List.set_cons_zero, List.set_cons_succ]
      refine takeD (i := 3) (d := 39) (v := ?_) rfl rfl (by kernel_rfl) (by kernel_rfl) (by kernel_rfl) (fun _ _ _ h => h) (Or.inl ⟨by rfl, ?_⟩) hHeld ?_
      rotate_left
      · intro wq hSw; (try dsimp only at hSw); go_simp; all_goals (with_reducible rfl)
      simp only [Act.put, List.setIfInBounds_toArray, List.set_cons_zero, List.set_cons_succ]
      refine takeD (i := 4) (d := 40) (v := ?_) rfl rfl (by kernel_rfl) (by kernel_rfl) (by kernel_rfl) (fun _ _ _ h => h) (Or.inl ⟨by rfl, ?_⟩) hHeld ?_
      rotate_left
      · intro wq hSw; (try dsimp only at hSw); go_simp; all_goals (with_reducible rfl)
      simp only [Act.put, List.setIfInBounds_toArray, List.set_cons_zero, List.set_cons_succ]
      refine takeD (i := 5) (d := 41) (v := ?_) rfl rfl (by kernel_rfl) (by kernel_rfl) (by kernel_rfl) (fun _ _ _ h => h) (Or.inl ⟨by rfl, ?_⟩) hHeld ?_
      rotate_left
      · intro wq hSw; (try dsimp only at hSw); go_simp; all_goals (with_reducible rfl)
      simp only [Act.put, List.setIfInBounds_toArray, List.set_cons_zero, List.set_cons_succ]
      refine takeD (i := 6) (d := 42) (v := ?_) rfl rfl (by kernel_rfl) (by kernel_rfl) (by kernel_rfl) (fun _ _ _ h => h) (Or.inl ⟨by rfl, ?_⟩) hHeld ?_
      rotate_left
      · intro wq hSw; (try dsimp only at hSw); go_simp; all_goals (with_reducible rfl)
      simp only [Act.put, List.setIfInBounds_toArray, List.set_cons_zero, List.set_cons_succ]
      refine takeD (i := 7) (d := 43) (v := ?_) rfl rfl (by kernel_rfl) (by kernel_rfl) (by kernel_rfl) (fun _ _ _ h => h) (Or.inl ⟨by rfl, ?_⟩) hHeld ?_
      rotate_left
      · intro wq hSw; (try dsimp only at hSw); go_simp; all_goals (with_reducible rfl)
      simp only [Act.put, List.setIfInBounds_toArray, List.set_cons_zero, List.set_cons_succ]
      refine takeD (i := 8) (d := 44) (v := ?_) rfl rfl (by kernel_rfl) (by kernel_rfl) (by kernel_rfl) (fun _ _ _ h => h) (Or.inl ⟨by rfl, ?_⟩) hHeld ?_
      rotate_left
      · intro wq hSw; (try dsimp only at hSw); go_simp; all_goals (with_reducible rfl)
      simp only [Act.put, List.setIfInBounds_toArray, List.set_cons_zero, List.set_cons_succ]
      refine takeD (i := 9) (d := 45) (v := ?_) rfl rfl (by kernel_rfl) (by kernel_rfl) (by kernel_rfl) (fun _ _ _ h => h) (Or.inl ⟨by rfl, ?_⟩) hHeld ?_
      rotate_left
      · intro wq hSw; (try dsimp only at hSw); go_simp; all_goals (with_reducible rfl)
      simp only [Act.put, List.setIfInBounds_toArray, List.set_cons_zero, List.set_cons_succ]
      refine takeD (i := 10) (d := 46) (v := ?_) rfl rfl (by kernel_rfl) (by kernel_rfl) (by kernel_rfl) (fun _ _ _ h => h) (Or.inl ⟨by rfl, ?_⟩) hHeld ?_
      rotate_left
      · intro wq hSw; (try dsimp only at hSw); go_simp; all_goals (with_reducible rfl)
      simp only [Act.put, List.setIfInBounds_toArray, List.set_cons_zero, List.set_cons_succ]
      refine wpAnyH_ready (rs := [11]) (by kernel_rfl) (by simp) ?_
      refine AllReadyH.cons rfl (fun K hK => ?_) AllReadyH.nil
      go_simp
      refine hK.out _ _ hHeld (fun _ => ?_)
      clear hK K
      refine wpAnyH_ready (rs := [12]) (by kernel_rfl) (by simp) ?_
      refine AllReadyH.cons rfl (fun K hK => ?_) AllReadyH.nil
      go_simp
      go_at_call 63
      refine HCL.out.mono ?_
      rintro e1 w7 ⟨a1, c1, rfl, H7⟩
      have HK7 := hid H7
      have x7 := cell_blk (i := 3) (v := .slice (some ⟨g, 0, none⟩) ll.length lc') (H7.drop.blk ((R.set i NilT ++ skL S Q q res (.slice pa progs.length pc) progs (.slice la ll.length lc) ll).length + 3) nw_blk) rfl
      have r7 := ownsRow_cell (H7.drop.row ((R.set i NilT ++ skL S Q q res (.slice pa progs.length pc) progs (.slice la ll.length lc) ll).length + 2) (nw_row' HW.out.2.2.1)) k (gt_get (by have := HW.out.2.2; omega))
      rw [HW.out.2.2.2.2.1] at r7
      have q0 := r7.1
      have q1 := r7.2
      clear H7 r7
      refine hK.out _ _ x7 (fun hHeld => ?_)
      clear hK K r1
      refine takeD (i := 13) (d := 49) (v := ?_) rfl rfl (by kernel_rfl) (by kernel_rfl) (by kernel_rfl) (fun _ _ _ h => h) (Or.inl ⟨by rfl, ?_⟩) hHeld ?_
      rotate_left
      · intro wq hSw; (try dsimp only at hSw); go_simp; all_goals (with_reducible rfl)
      simp only [Act.put, List.setIfInBounds_toArray, List.set_cons_zero, List.set_cons_succ]
      refine wpAnyH_ready (rs := [14]) (by kernel_rfl) (by simp) ?_
      refine AllReadyH.cons rfl (fun K hK => ?_) AllReadyH.nil
      go_simp
      have H8 := St.nwStep (lk := lk) (k := k) (g := g) (lc := lc') (x := y) (a' := a1) (c' := c1) (C := C) (X := X) (T := R.set i NilT ++ skL S Q q res (.slice pa progs.length pc) progs (.slice la ll.length lc) ll) (q := q) (res := res) (pv := .slice pa' progs.length pc') (progs := progs) (by have := HW.out.2.2; omega) (by rw [HW.out.2.2.2.2.1]) (by rw [HW.out.2.2.1]; exact HK7.out)
      rw [HW.out.2.2.1] at H8
      have x8 := cell_blk (i := 3) (v := .slice (some ⟨g, 0, none⟩) ll.length lc') (H8.blk ((R.set i NilT ++ skL S Q q res (.slice pa progs.length pc) progs (.slice la ll.length lc) ll).length + 3) nw_blk) rfl
      have H8 := hid H8
      refine hK.out _ _ x8 (fun _ => ?_)
      clear hK K x7 hHeld q0 q1
      refine wpAnyH_done (by kernel_rfl) ?_ _
      go_wp2_with fail
      obtain ⟨hlk, hlk2, hlen, hy, hyn, hlt⟩ := HW.out
      refine ⟨⟨k + 1, lk.set k (y.1, ⟨a1, c1⟩), by omega, by push_cast; rfl, ?_, ?_, H8.out⟩, ?_⟩
      · rw [List.map_set, hlk]
        exact set_self (by rw [List.getElem?_map, hy]; rfl)
      · intro j hj
        rw [List.getElem?_set_ne (by omega)]
        exact hlk2 j (by omega)
      · simp only [intOf]; omega
    · have hkk : k = ll.length := by omega
      subst hkk
      have H := hid H
      have HLK := hid hlk
      have hL := hid hlen
      clear hlk2 hlk hlt hk hlen
      go_wp2_with fail
      go_ret
      refine ⟨X, rfl, ?_⟩
      have h9 := H.out
      rw [← hL.out] at h9
      exact St.nwEnd hi0.out HVV.out.symm HLK.out h9
end
end Go.Proofs.YtmgnekjhlfghaaaGreat

/-
  state: New, does.
-/
namespace Go.Proofs.YtmgnekjhlfghaaaGreat
open Go.RowKit
set_option linter.unusedVariables false
set_option linter.unusedSimpArgs false

section
variable {W : Base} {w : World} {R : List Thing}
set_option maxHeartbeats 1000000 in
theorem st_snew (H : St W w R) (n : Int) (h1 : 1 ≤ n) (h2 : n ≤ 8) :
    Calls Tryz.prog 6 #[.int .i64 n] w fun e w' => ∃ S, e = .returned (.tuple #[.pointer (some ⟨S, 0, none⟩), .int .i64 0]) ∧ St W w' (R ++ [SkT S (SV.new n)]) := by
  have HQ := hid (st_qnew H n h1 h2)
  go_enter Tryz.func6, Tryz.ntmps6
  go_wp2_with (go_at_call 23; refine HQ.out.mono ?_; rintro e w1 ⟨Q, rfl, H1⟩; have H1 := hid H1)
  go_wp2_with fail
  go_ret2
  refine ⟨w1.heap.size, rfl, ?_⟩
  have H2 := H1.out.alloc (.cells #[.pointer (some ⟨Q, 0, none⟩), .int .i64 0, .slice none 0 0, .slice none 0 0] 75)
  have H3 := H2.new (A := Row1 9 1 (.slice none 0 0) 0 (sL.cells [])) (F := []) (Fr.refl _ _) inferInstance ⟨rfl, World.ownsRow_nil _ _ _ _⟩ (by simp)
  have H4 := H3.new (A := Row1 41 1 (.slice none 0 0) 0 (tL.cells [])) (F := []) (Fr.refl _ _) inferInstance ⟨rfl, World.ownsRow_nil _ _ _ _⟩ (by simp)
  have h5 : St W (w1.alloc (.cells #[.pointer (some ⟨Q, 0, none⟩), .int .i64 0, .slice none 0 0, .slice none 0 0] 75)) (R ++ skL w1.heap.size Q ⟨n, []⟩ 0 (.slice none 0 0) [] (.slice none 0 0) []) := H4.perm (by
    rw [List.append_assoc, List.append_assoc, List.append_assoc]
    exact List.Perm.append_left _ (List.Perm.swap _ _ _))
  exact h5.skEnd

/-- does's table. -/
def doesA : Value := .agg #[.nilFunc, .func (.func 71) #[] #[], .func (.func 72) #[] #[], .func (.func 73) #[] #[], .func (.func 74) #[] #[], .func (.func 75) #[] #[], .func (.func 76) #[] #[]]
/-- What does gives for a kind. -/
def doesF (k : Int) : Nat := if k = 1 then 71 else if k = 2 then 72 else if k = 3 then 73 else if k = 4 then 74 else if k = 5 then 75 else 76
theorem does_index (w : World) (k : Int) (h1 : 1 ≤ k) (h2 : k ≤ 6) :
    (Instr.index 136 doesA (.int .i64 k)).run Tryz.prog w = .ok (.func (.func (doesF k)) #[] #[]) w := by
  have hk : k = 1 ∨ k = 2 ∨ k = 3 ∨ k = 4 ∨ k = 5 ∨ k = 6 := by omega
  rcases hk with rfl | rfl | rfl | rfl | rfl | rfl <;> simp [Instr.index, doesA, doesF, run_underlying Tryz.underlying136, asIntOf, part, Tryz.isAgg82, Tryz.sizeOf82, go_sem]
set_option maxRecDepth 100000 in
theorem does_walk (w : World) (k : Int) (h1 : 1 ≤ k) (h2 : k ≤ 6) :
    Calls Tryz.prog 27 #[.int .i64 k] w fun e w' => e = .returned (.func (.func (doesF k)) #[] #[]) ∧ Fr [] w w' := by
  have hix := does_index
  unfold doesA at hix
  have hix := fun w => hix w k h1 h2
  go_enter Tryz.func27, Tryz.ntmps27
  go_wp2_with fail
  go_ret
  exact ⟨rfl, Fr.refl _ _⟩
end
end Go.Proofs.YtmgnekjhlfghaaaGreat
