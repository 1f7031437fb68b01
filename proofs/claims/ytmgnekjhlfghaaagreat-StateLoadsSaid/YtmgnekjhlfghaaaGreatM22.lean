/-
  Merged, in build order: S7.
-/
import Derived.Test.YtmgnekjhlfghaaaGreatM21
/-
  state: Apply.
-/
namespace Go.Proofs.YtmgnekjhlfghaaaGreat
open Go.RowKit
set_option linter.unusedVariables false
set_option linter.unusedSimpArgs false

/-- What Apply answers. -/
def SV.ret (v : SV) (l : List CV) : Value := match v.go l 0 with
  | .ok _ => .tuple #[.int .i64 0, .int .i64 0]
  | .error k => .tuple #[.int .i64 (k : Nat), .int .i64 170]
/-- The state behind it. -/
def SV.put (v : SV) (l : List CV) : SV := match v.go l 0 with
  | .ok u => u
  | .error _ => v

theorem go_none {u : SV} {L : List CV} {k : Nat} {c : CV} (h : L[k]? = some c) (h1 : u.one c = none) : u.go (L.drop k) k = .error k := by
  obtain ⟨hk, rfl⟩ := List.getElem?_eq_some_iff.1 h
  rw [List.drop_eq_getElem_cons hk, SV.go, h1]
theorem go_some {u u' : SV} {L : List CV} {k : Nat} {c : CV} (h : L[k]? = some c) (h1 : u.one c = some u') : u.go (L.drop k) k = u'.go (L.drop (k + 1)) (k + 1) := by
  obtain ⟨hk, rfl⟩ := List.getElem?_eq_some_iff.1 h
  rw [List.drop_eq_getElem_cons hk, SV.go, h1]
section
variable {W : Base} {w : World} {R : List Thing}
theorem ch_box {b : Nat} {c : CV} {t : TS} (h : w.heap[b]? = some (chO c t)) :
    w.cell? ⟨b, 0, none⟩ = some (.int .i64 c.kind) ∧ w.cell? ⟨b, 1, none⟩ = some (.int .i64 c.n) ∧ w.cell? ⟨b, 2, none⟩ = some (.int .i64 c.job) ∧ w.cell? ⟨b, 3, none⟩ = some (.int .i64 c.badge) ∧
    w.cell? ⟨b, 4, none⟩ = some (.int .i64 c.slot) ∧ w.cell? ⟨b, 5, none⟩ = some (.int .i64 c.life) ∧ w.cell? ⟨b, 6, none⟩ = some (.int .i64 c.code) ∧ w.cell? ⟨b, 7, none⟩ = some (.int .u64 c.bits) ∧
    w.cell? ⟨b, 8, none⟩ = some (.string c.prog) ∧ w.cell? ⟨b, 9, none⟩ = some (.slice t.a c.texts.length t.c) :=
  ⟨cell_blk (i := 0) h rfl, cell_blk (i := 1) h rfl, cell_blk (i := 2) h rfl, cell_blk (i := 3) h rfl, cell_blk (i := 4) h rfl, cell_blk (i := 5) h rfl, cell_blk (i := 6) h rfl, cell_blk (i := 7) h rfl, cell_blk (i := 8) h rfl, cell_blk (i := 9) h rfl⟩
theorem get_at {A B : Thing} : ((R ++ [A]) ++ [B])[R.length]? = some A := by simp
theorem set_at {A B C : Thing} : ((R ++ [A]) ++ [B]).set R.length C = (R ++ [C]) ++ [B] := by simp
theorem set_one {A C : Thing} : (R ++ [A]).set R.length C = R ++ [C] := by simp
theorem apply_no {i S k : Nat} {v : SV} {L : List CV} {A B : Thing} (h : v.go L 0 = .error k) (hi : R[i]? = some (SkT S v)) (H : St W w ((R ++ [A]) ++ [B])) :
    Ending.returned (.tuple #[.int .i64 (k : Nat), .int .i64 170]) = .returned (v.ret L) ∧ St W w (R.set i (SkT S (v.put L))) := by
  unfold SV.ret SV.put
  rw [h]
  refine ⟨rfl, ?_⟩
  rw [things_set_self hi]
  exact H.drop.drop
theorem perm_x {α : Type _} (R' rx rs : List α) (a b c : α) : (((R' ++ [a]) ++ (b :: rx)) ++ (c :: rs)).Perm ((R' ++ (c :: rx)) ++ (a :: b :: rs)) := by
  rw [List.append_assoc, List.append_assoc, List.append_assoc]
  refine List.Perm.append_left _ ?_
  show (a :: b :: (rx ++ c :: rs)).Perm (c :: (rx ++ a :: b :: rs))
  refine ((List.perm_middle (l₁ := rx)).cons b |>.cons a).trans ?_
  refine (show (a :: b :: c :: (rx ++ rs)).Perm (c :: a :: b :: (rx ++ rs)) from (List.perm_middle (l₁ := [a, b]))).trans ?_
  refine List.Perm.cons c ?_
  exact ((List.perm_middle (l₁ := rx) (a := b)).cons a).symm.trans (List.perm_middle (l₁ := rx) (a := a) (l₂ := b :: rs)).symm
theorem blk4 {T rest : List Thing} {S : Nat} {a0 a1 a2 a3 : Value} {t : TypeId} (v0 v1 v2 v3 : Value) (H : St W w (T ++ (BlkT S (.cells #[a0, a1, a2, a3] t) :: rest))) :
    St W ((((w.setCell ⟨S, 0, none⟩ v0).setCell ⟨S, 1, none⟩ v1).setCell ⟨S, 2, none⟩ v2).setCell ⟨S, 3, none⟩ v3) (T ++ (BlkT S (.cells #[v0, v1, v2, v3] t) :: rest)) := by
  have e : ∀ A B : Thing, (T ++ (A :: rest)).set T.length B = T ++ (B :: rest) := fun A B => by simp
  have g : ∀ A : Thing, (T ++ (A :: rest))[T.length]? = some A := fun A => by simp
  have h1 := H.setBlk T.length (g _) 0 v0
  rw [e] at h1
  have h2 := h1.setBlk T.length (g _) 1 v1
  rw [e] at h2
  have h3 := h2.setBlk T.length (g _) 2 v2
  rw [e] at h3
  have h4 := h3.setBlk T.length (g _) 3 v3
  rw [e] at h4
  exact h4
theorem apply_yes {i S X Q Q2 : Nat} {v u : SV} {L : List CV} {pv lv pv2 lv2 : Value} {ll ll2 : List (List ByteArray × TS)} (hil : i < R.length) (h : v.go L 0 = .ok u) (hll : ll.map (·.1) = u.logs)
    (H : St W w (((R ++ [NilT]) ++ skL X Q u.q u.res pv u.progs lv ll).set i NilT ++ skL S Q2 v.q v.res pv2 v.progs lv2 ll2)) :
    Ending.returned (.tuple #[.int .i64 0, .int .i64 0]) = .returned (v.ret L) ∧
      St W ((((w.setCell ⟨S, 0, none⟩ (.pointer (some ⟨Q, 0, none⟩))).setCell ⟨S, 1, none⟩ (.int .i64 u.res)).setCell ⟨S, 2, none⟩ pv).setCell ⟨S, 3, none⟩ lv) (R.set i (SkT S (v.put L))) := by
  unfold SV.ret SV.put
  rw [h]
  refine ⟨rfl, ?_⟩
  rw [List.append_assoc, List.set_append_left _ _ hil, ← List.append_assoc] at H
  have h1 : St W _ (((R.set i NilT ++ [NilT]) ++ skL X Q u.q u.res pv u.progs lv ll) ++ (BlkT S (.cells #[.pointer (some ⟨Q, 0, none⟩), .int .i64 u.res, pv, lv] 75) :: _)) := blk4 _ _ _ _ H
  have h2 : St W _ (R.set i NilT ++ skL S Q u.q u.res pv u.progs lv ll) := h1.sub (perm_x _ _ _ _ _ _)
  have h3 := h2.skBack hil
  rw [hll] at h3
  exact h3
/-- The change's own function. -/
def DoesK (W : Base) (f X : Nat) (u : SV) (c : CV) (t : TS) (o : Option SV) : Prop :=
  ∀ (wx : World) (R' : List Thing) (i : Nat), St W wx R' → R'[i]? = some (SkT X u) → In wx 1 t.a c.texts.length t.c (sL.at_ c.texts) → Calls Tryz.prog f #[.pointer (some ⟨X, 0, none⟩), .agg (c.f t).toArray] wx (DoTo W R' i X o)
theorem does_one {f X : Nat} {u : SV} (hu : u.wf) {c : CV} {t : TS} (hc : c.check = 0) (hf : doesF c.kind = f) : DoesK W f X u c t (u.does c) := by
  intro wx R' i H hi hin
  obtain ⟨hk, c1, c2, c3, c4, c5, c6, c7⟩ := check_iff.1 hc
  have hk' : c.kind = 1 ∨ c.kind = 2 ∨ c.kind = 3 ∨ c.kind = 4 ∨ c.kind = 5 ∨ c.kind = 6 := by omega
  unfold SV.does
  subst hf
  rcases hk' with e | e | e | e | e | e
  · rw [e, if_pos rfl]; exact st_sreserve H i hi c t
  · rw [e, if_neg (by decide), if_pos rfl]; exact st_ssubmit H i hi hu c t
  · rw [e, if_neg (by decide), if_neg (by decide), if_pos rfl]; exact st_sgrant H i hi hu c t (by rw [e, if_pos (by decide)] at c5; exact c5.1)
  · rw [e, if_neg (by decide), if_neg (by decide), if_neg (by decide), if_pos rfl]; exact st_slog H i hi hu c t hin (by rw [e, if_pos (by decide)] at c6; exact c6.1.1) (by rw [e, if_pos (by decide)] at c6; exact c6.1.2)
  · rw [e, if_neg (by decide), if_neg (by decide), if_neg (by decide), if_neg (by decide), if_pos rfl]; exact st_sexpire H i hi hu c t
  · rw [e, if_neg (by decide), if_neg (by decide), if_neg (by decide), if_neg (by decide), if_neg (by decide)]; exact st_ssettle H i hi hu c t
set_option maxHeartbeats 4000000 in
set_option maxRecDepth 100000 in
theorem st_sapply (H : St W w R) (i : Nat) {S : Nat} {v : SV} (hi : R[i]? = some (SkT S v)) (hv : v.wf) (a : Option Addr) (n cap : Nat) (l : List (CV × TS))
    (hC : ∀ (wx : World) (T : List Thing), St W wx (R ++ T) → ChIn wx a n cap l) :
    Calls Tryz.prog 8 #[.pointer (some ⟨S, 0, none⟩), .slice a n cap] w fun e w' => e = .returned (v.ret (l.map (·.1))) ∧ St W w' (R.set i (SkT S (v.put (l.map (·.1))))) := by
  have hC0 := hC w [] (by simpa using H)
  have hm := hC0.row.max
  have hlen := hid hC0.len
  have hil := lt_of_get hi
  have HC := hid hC
  have HI := hid hi
  have HV := hid hv
  have HQ := hid (st_sclone H i hi hv)
  clear hC0 hC hi hv
  go_enter Tryz.func8, Tryz.ntmps8
  go_wp2_with (go_at_call 25; refine HQ.out.mono ?_; rintro e w1 ⟨X, rfl, H1⟩; have H1 := hid H1)
  go_wp2_with fail
  go_loopw [13] (fun iv wr => ∃ (k : Nat) (u : SV), k ≤ n ∧ iv = .int .i64 k ∧ u.wf ∧ v.go (l.map (·.1)) 0 = u.go ((l.map (·.1)).drop k) k ∧ St W wr (R ++ [SkT X u])) (fun iv _ => n - (intOf iv).toNat)
  case atStart => exact ⟨0, v, Nat.zero_le _, rfl, HV.out, rfl, H1.out⟩
  case round =>
    obtain ⟨k, u, hk, rfl, huw, hgo, H⟩ := hrel
    by_cases hlt : k < n
    · have hC := HC.out wr _ H
      obtain ⟨bb, ob, rfl⟩ := hC.row.sm (by omega)
      obtain ⟨x, hx⟩ : ∃ x, cL.nth l k = x := ⟨_, rfl⟩
      have hkl : k < l.length := by rw [hC.len]; exact hlt
      have hget : (l.map (·.1))[k]? = some x.1 := by rw [List.getElem?_map, show l[k]? = some x by rw [← hx]; exact cL.nth_get hkl]; rfl
      obtain ⟨c0, c1, c2, c3, c4, c5, c6, c7, c8, c9⟩ := ch_cells hC.row k hlt x hx
      have hone := hid (hC.one x (by rw [← hx]; exact cL.mem_nth hkl))
      have HX := hid (And.intro huw (And.intro hgo (And.intro hget H)))
      have hk0 : (0 : Int) ≤ k := by omega
      have hk1 : (k : Int) < n := by omega
      clear hC huw hgo hget H hx hkl hlt hk
      go_wp2_with fail
      have H2 := hid (HX.out.2.2.2.alloc (chO x.1 x.2)).drew
      have hin := hid (show In (wr.alloc (chO x.1 x.2)).drew 1 x.2.a x.1.texts.length x.2.c (sL.at_ x.1.texts) from hone.out.1.fr0 (((Fr.refl _ _).alloc _).drew))
      have hNow := ch_box H2.out.chB
      have hge := hid (get_at (R := R) (A := SkT X u) (B := BlkT wr.heap.size (chO x.1 x.2)))
      have hck := check_walk _ x.1 x.2 hin.out
      by_cases hc : x.1.check = 0
      · rw [hc] at hck
        have HWF := hid (show ∀ u', u.does x.1 = some u' → u'.wf from fun u' h => one_wf HX.out.1 hone.out.2 (c := x.1) (by rw [SV.one, if_pos hc]; exact h))
        obtain ⟨hk', _⟩ := check_iff.1 hc
        have hk6 : x.1.kind = 1 ∨ x.1.kind = 2 ∨ x.1.kind = 3 ∨ x.1.kind = 4 ∨ x.1.kind = 5 ∨ x.1.kind = 6 := by omega
        have hdw := fun w => does_walk w x.1.kind (by omega) (by omega)
        have HCK := hid hck
        have HC0 := hid hc
        clear hck hc hk'
        rcases hk6 with e | e | e | e | e | e
        · have hff : doesF x.1.kind = 71 := by rw [e]; rfl
          have HDO := hid (does_one (W := W) (X := X) (t := x.2) HX.out.1 HC0.out hff)
          rw [hff] at hdw
          clear e hff
          rcases hdo : u.does x.1 with _ | u1
          · rw [hdo] at HDO
            have HG := hid (HX.out.2.1.trans (go_none HX.out.2.2.1 (show u.one x.1 = none by rw [SV.one, if_pos HC0.out]; exact hdo)))
            clear hdo
            go_region_held3 (fun wx : World => wx.cell? ⟨wr.heap.size, 0, none⟩ = some (.int .i64 x.1.kind) ∧ wx.cell? ⟨wr.heap.size, 1, none⟩ = some (.int .i64 x.1.n) ∧ wx.cell? ⟨wr.heap.size, 2, none⟩ = some (.int .i64 x.1.job) ∧ wx.cell? ⟨wr.heap.size, 3, none⟩ = some (.int .i64 x.1.badge) ∧ wx.cell? ⟨wr.heap.size, 4, none⟩ = some (.int .i64 x.1.slot) ∧ wx.cell? ⟨wr.heap.size, 5, none⟩ = some (.int .i64 x.1.life) ∧ wx.cell? ⟨wr.heap.size, 6, none⟩ = some (.int .i64 x.1.code) ∧ wx.cell? ⟨wr.heap.size, 7, none⟩ = some (.int .u64 x.1.bits) ∧ wx.cell? ⟨wr.heap.size, 8, none⟩ = some (.string x.1.prog) ∧ wx.cell? ⟨wr.heap.size, 9, none⟩ = some (.slice x.2.a x.1.texts.length x.2.c)) ((first | exact hNow)) (first | (go_at_call 26; refine HCK.out.mono ?_; rintro e1 w2 ⟨rfl, hF⟩; have H3 := H2.out.same hF; have hNow := ch_box H3.chB; have H3 := hid H3; have hin3 := hid (hin.out.fr0 hF); clear hF) | (go_at_call 27; refine (hdw _).mono ?_; rintro e2 w3 ⟨rfl, hF⟩; have H4 := H3.out.same hF; have hNow := ch_box H4.chB; have H4 := hid H4; have hin4 := hid (hin3.out.fr0 hF); clear hF) | (go_at_call 71; refine (HDO.out _ _ _ H4.out hge.out hin4.out).mono ?_; intro e3 w4 hD; obtain ⟨u', rfl, H5, ho⟩ := hD; rw [set_at] at H5; have hNow := ch_box H5.chB; have H5 := hid H5; clear ho))
            go_wp2_with fail
            go_ret2
            exact apply_no HG.out HI.out H5.out
          · rw [hdo] at HDO
            have HG := hid (HX.out.2.1.trans (go_some HX.out.2.2.1 (show u.one x.1 = some u1 by rw [SV.one, if_pos HC0.out]; exact hdo)))
            have HW1 := hid (HWF.out u1 hdo)
            clear hdo
            go_region_held3 (fun wx : World => wx.cell? ⟨wr.heap.size, 0, none⟩ = some (.int .i64 x.1.kind) ∧ wx.cell? ⟨wr.heap.size, 1, none⟩ = some (.int .i64 x.1.n) ∧ wx.cell? ⟨wr.heap.size, 2, none⟩ = some (.int .i64 x.1.job) ∧ wx.cell? ⟨wr.heap.size, 3, none⟩ = some (.int .i64 x.1.badge) ∧ wx.cell? ⟨wr.heap.size, 4, none⟩ = some (.int .i64 x.1.slot) ∧ wx.cell? ⟨wr.heap.size, 5, none⟩ = some (.int .i64 x.1.life) ∧ wx.cell? ⟨wr.heap.size, 6, none⟩ = some (.int .i64 x.1.code) ∧ wx.cell? ⟨wr.heap.size, 7, none⟩ = some (.int .u64 x.1.bits) ∧ wx.cell? ⟨wr.heap.size, 8, none⟩ = some (.string x.1.prog) ∧ wx.cell? ⟨wr.heap.size, 9, none⟩ = some (.slice x.2.a x.1.texts.length x.2.c)) ((first | exact hNow)) (first | (go_at_call 26; refine HCK.out.mono ?_; rintro e1 w2 ⟨rfl, hF⟩; have H3 := H2.out.same hF; have hNow := ch_box H3.chB; have H3 := hid H3; have hin3 := hid (hin.out.fr0 hF); clear hF) | (go_at_call 27; refine (hdw _).mono ?_; rintro e2 w3 ⟨rfl, hF⟩; have H4 := H3.out.same hF; have hNow := ch_box H4.chB; have H4 := hid H4; have hin4 := hid (hin3.out.fr0 hF); clear hF) | (go_at_call 71; refine (HDO.out _ _ _ H4.out hge.out hin4.out).mono ?_; intro e3 w4 hD; obtain ⟨u', rfl, H5, ho⟩ := hD; obtain rfl := ho _ rfl; rw [set_at] at H5; have hNow := ch_box H5.chB; have H5 := hid H5; clear ho))
            clear hNow
            go_wp2_with fail
            refine ⟨⟨k + 1, _, by omega, by push_cast; rfl, HW1.out, HG.out, H5.out.drop⟩, ?_⟩
            simp only [intOf]; omega
        · have hff : doesF x.1.kind = 72 := by rw [e]; rfl
          have HDO := hid (does_one (W := W) (X := X) (t := x.2) HX.out.1 HC0.out hff)
          rw [hff] at hdw
          clear e hff
          rcases hdo : u.does x.1 with _ | u1
          · rw [hdo] at HDO
            have HG := hid (HX.out.2.1.trans (go_none HX.out.2.2.1 (show u.one x.1 = none by rw [SV.one, if_pos HC0.out]; exact hdo)))
            clear hdo
            go_region_held3 (fun wx : World => wx.cell? ⟨wr.heap.size, 0, none⟩ = some (.int .i64 x.1.kind) ∧ wx.cell? ⟨wr.heap.size, 1, none⟩ = some (.int .i64 x.1.n) ∧ wx.cell? ⟨wr.heap.size, 2, none⟩ = some (.int .i64 x.1.job) ∧ wx.cell? ⟨wr.heap.size, 3, none⟩ = some (.int .i64 x.1.badge) ∧ wx.cell? ⟨wr.heap.size, 4, none⟩ = some (.int .i64 x.1.slot) ∧ wx.cell? ⟨wr.heap.size, 5, none⟩ = some (.int .i64 x.1.life) ∧ wx.cell? ⟨wr.heap.size, 6, none⟩ = some (.int .i64 x.1.code) ∧ wx.cell? ⟨wr.heap.size, 7, none⟩ = some (.int .u64 x.1.bits) ∧ wx.cell? ⟨wr.heap.size, 8, none⟩ = some (.string x.1.prog) ∧ wx.cell? ⟨wr.heap.size, 9, none⟩ = some (.slice x.2.a x.1.texts.length x.2.c)) ((first | exact hNow)) (first | (go_at_call 26; refine HCK.out.mono ?_; rintro e1 w2 ⟨rfl, hF⟩; have H3 := H2.out.same hF; have hNow := ch_box H3.chB; have H3 := hid H3; have hin3 := hid (hin.out.fr0 hF); clear hF) | (go_at_call 27; refine (hdw _).mono ?_; rintro e2 w3 ⟨rfl, hF⟩; have H4 := H3.out.same hF; have hNow := ch_box H4.chB; have H4 := hid H4; have hin4 := hid (hin3.out.fr0 hF); clear hF) | (go_at_call 72; refine (HDO.out _ _ _ H4.out hge.out hin4.out).mono ?_; intro e3 w4 hD; obtain ⟨u', rfl, H5, ho⟩ := hD; rw [set_at] at H5; have hNow := ch_box H5.chB; have H5 := hid H5; clear ho))
            go_wp2_with fail
            go_ret2
            exact apply_no HG.out HI.out H5.out
          · rw [hdo] at HDO
            have HG := hid (HX.out.2.1.trans (go_some HX.out.2.2.1 (show u.one x.1 = some u1 by rw [SV.one, if_pos HC0.out]; exact hdo)))
            have HW1 := hid (HWF.out u1 hdo)
            clear hdo
            go_region_held3 (fun wx : World => wx.cell? ⟨wr.heap.size, 0, none⟩ = some (.int .i64 x.1.kind) ∧ wx.cell? ⟨wr.heap.size, 1, none⟩ = some (.int .i64 x.1.n) ∧ wx.cell? ⟨wr.heap.size, 2, none⟩ = some (.int .i64 x.1.job) ∧ wx.cell? ⟨wr.heap.size, 3, none⟩ = some (.int .i64 x.1.badge) ∧ wx.cell? ⟨wr.heap.size, 4, none⟩ = some (.int .i64 x.1.slot) ∧ wx.cell? ⟨wr.heap.size, 5, none⟩ = some (.int .i64 x.1.life) ∧ wx.cell? ⟨wr.heap.size, 6, none⟩ = some (.int .i64 x.1.code) ∧ wx.cell? ⟨wr.heap.size, 7, none⟩ = some (.int .u64 x.1.bits) ∧ wx.cell? ⟨wr.heap.size, 8, none⟩ = some (.string x.1.prog) ∧ wx.cell? ⟨wr.heap.size, 9, none⟩ = some (.slice x.2.a x.1.texts.length x.2.c)) ((first | exact hNow)) (first | (go_at_call 26; refine HCK.out.mono ?_; rintro e1 w2 ⟨rfl, hF⟩; have H3 := H2.out.same hF; have hNow := ch_box H3.chB; have H3 := hid H3; have hin3 := hid (hin.out.fr0 hF); clear hF) | (go_at_call 27; refine (hdw _).mono ?_; rintro e2 w3 ⟨rfl, hF⟩; have H4 := H3.out.same hF; have hNow := ch_box H4.chB; have H4 := hid H4; have hin4 := hid (hin3.out.fr0 hF); clear hF) | (go_at_call 72; refine (HDO.out _ _ _ H4.out hge.out hin4.out).mono ?_; intro e3 w4 hD; obtain ⟨u', rfl, H5, ho⟩ := hD; obtain rfl := ho _ rfl; rw [set_at] at H5; have hNow := ch_box H5.chB; have H5 := hid H5; clear ho))
            clear hNow
            go_wp2_with fail
            refine ⟨⟨k + 1, _, by omega, by push_cast; rfl, HW1.out, HG.out, H5.out.drop⟩, ?_⟩
            simp only [intOf]; omega
        · have hff : doesF x.1.kind = 73 := by rw [e]; rfl
          have HDO := hid (does_one (W := W) (X := X) (t := x.2) HX.out.1 HC0.out hff)
          rw [hff] at hdw
          clear e hff
          rcases hdo : u.does x.1 with _ | u1
          · rw [hdo] at HDO
            have HG := hid (HX.out.2.1.trans (go_none HX.out.2.2.1 (show u.one x.1 = none by rw [SV.one, if_pos HC0.out]; exact hdo)))
            clear hdo
            go_region_held3 (fun wx : World => wx.cell? ⟨wr.heap.size, 0, none⟩ = some (.int .i64 x.1.kind) ∧ wx.cell? ⟨wr.heap.size, 1, none⟩ = some (.int .i64 x.1.n) ∧ wx.cell? ⟨wr.heap.size, 2, none⟩ = some (.int .i64 x.1.job) ∧ wx.cell? ⟨wr.heap.size, 3, none⟩ = some (.int .i64 x.1.badge) ∧ wx.cell? ⟨wr.heap.size, 4, none⟩ = some (.int .i64 x.1.slot) ∧ wx.cell? ⟨wr.heap.size, 5, none⟩ = some (.int .i64 x.1.life) ∧ wx.cell? ⟨wr.heap.size, 6, none⟩ = some (.int .i64 x.1.code) ∧ wx.cell? ⟨wr.heap.size, 7, none⟩ = some (.int .u64 x.1.bits) ∧ wx.cell? ⟨wr.heap.size, 8, none⟩ = some (.string x.1.prog) ∧ wx.cell? ⟨wr.heap.size, 9, none⟩ = some (.slice x.2.a x.1.texts.length x.2.c)) ((first | exact hNow)) (first | (go_at_call 26; refine HCK.out.mono ?_; rintro e1 w2 ⟨rfl, hF⟩; have H3 := H2.out.same hF; have hNow := ch_box H3.chB; have H3 := hid H3; have hin3 := hid (hin.out.fr0 hF); clear hF) | (go_at_call 27; refine (hdw _).mono ?_; rintro e2 w3 ⟨rfl, hF⟩; have H4 := H3.out.same hF; have hNow := ch_box H4.chB; have H4 := hid H4; have hin4 := hid (hin3.out.fr0 hF); clear hF) | (go_at_call 73; refine (HDO.out _ _ _ H4.out hge.out hin4.out).mono ?_; intro e3 w4 hD; obtain ⟨u', rfl, H5, ho⟩ := hD; rw [set_at] at H5; have hNow := ch_box H5.chB; have H5 := hid H5; clear ho))
            go_wp2_with fail
            go_ret2
            exact apply_no HG.out HI.out H5.out
          · rw [hdo] at HDO
            have HG := hid (HX.out.2.1.trans (go_some HX.out.2.2.1 (show u.one x.1 = some u1 by rw [SV.one, if_pos HC0.out]; exact hdo)))
            have HW1 := hid (HWF.out u1 hdo)
            clear hdo
            go_region_held3 (fun wx : World => wx.cell? ⟨wr.heap.size, 0, none⟩ = some (.int .i64 x.1.kind) ∧ wx.cell? ⟨wr.heap.size, 1, none⟩ = some (.int .i64 x.1.n) ∧ wx.cell? ⟨wr.heap.size, 2, none⟩ = some (.int .i64 x.1.job) ∧ wx.cell? ⟨wr.heap.size, 3, none⟩ = some (.int .i64 x.1.badge) ∧ wx.cell? ⟨wr.heap.size, 4, none⟩ = some (.int .i64 x.1.slot) ∧ wx.cell? ⟨wr.heap.size, 5, none⟩ = some (.int .i64 x.1.life) ∧ wx.cell? ⟨wr.heap.size, 6, none⟩ = some (.int .i64 x.1.code) ∧ wx.cell? ⟨wr.heap.size, 7, none⟩ = some (.int .u64 x.1.bits) ∧ wx.cell? ⟨wr.heap.size, 8, none⟩ = some (.string x.1.prog) ∧ wx.cell? ⟨wr.heap.size, 9, none⟩ = some (.slice x.2.a x.1.texts.length x.2.c)) ((first | exact hNow)) (first | (go_at_call 26; refine HCK.out.mono ?_; rintro e1 w2 ⟨rfl, hF⟩; have H3 := H2.out.same hF; have hNow := ch_box H3.chB; have H3 := hid H3; have hin3 := hid (hin.out.fr0 hF); clear hF) | (go_at_call 27; refine (hdw _).mono ?_; rintro e2 w3 ⟨rfl, hF⟩; have H4 := H3.out.same hF; have hNow := ch_box H4.chB; have H4 := hid H4; have hin4 := hid (hin3.out.fr0 hF); clear hF) | (go_at_call 73; refine (HDO.out _ _ _ H4.out hge.out hin4.out).mono ?_; intro e3 w4 hD; obtain ⟨u', rfl, H5, ho⟩ := hD; obtain rfl := ho _ rfl; rw [set_at] at H5; have hNow := ch_box H5.chB; have H5 := hid H5; clear ho))
            clear hNow
            go_wp2_with fail
            refine ⟨⟨k + 1, _, by omega, by push_cast; rfl, HW1.out, HG.out, H5.out.drop⟩, ?_⟩
            simp only [intOf]; omega
        · have hff : doesF x.1.kind = 74 := by rw [e]; rfl
          have HDO := hid (does_one (W := W) (X := X) (t := x.2) HX.out.1 HC0.out hff)
          rw [hff] at hdw
          clear e hff
          rcases hdo : u.does x.1 with _ | u1
          · rw [hdo] at HDO
            have HG := hid (HX.out.2.1.trans (go_none HX.out.2.2.1 (show u.one x.1 = none by rw [SV.one, if_pos HC0.out]; exact hdo)))
            clear hdo
            go_region_held3 (fun wx : World => wx.cell? ⟨wr.heap.size, 0, none⟩ = some (.int .i64 x.1.kind) ∧ wx.cell? ⟨wr.heap.size, 1, none⟩ = some (.int .i64 x.1.n) ∧ wx.cell? ⟨wr.heap.size, 2, none⟩ = some (.int .i64 x.1.job) ∧ wx.cell? ⟨wr.heap.size, 3, none⟩ = some (.int .i64 x.1.badge) ∧ wx.cell? ⟨wr.heap.size, 4, none⟩ = some (.int .i64 x.1.slot) ∧ wx.cell? ⟨wr.heap.size, 5, none⟩ = some (.int .i64 x.1.life) ∧ wx.cell? ⟨wr.heap.size, 6, none⟩ = some (.int .i64 x.1.code) ∧ wx.cell? ⟨wr.heap.size, 7, none⟩ = some (.int .u64 x.1.bits) ∧ wx.cell? ⟨wr.heap.size, 8, none⟩ = some (.string x.1.prog) ∧ wx.cell? ⟨wr.heap.size, 9, none⟩ = some (.slice x.2.a x.1.texts.length x.2.c)) ((first | exact hNow)) (first | (go_at_call 26; refine HCK.out.mono ?_; rintro e1 w2 ⟨rfl, hF⟩; have H3 := H2.out.same hF; have hNow := ch_box H3.chB; have H3 := hid H3; have hin3 := hid (hin.out.fr0 hF); clear hF) | (go_at_call 27; refine (hdw _).mono ?_; rintro e2 w3 ⟨rfl, hF⟩; have H4 := H3.out.same hF; have hNow := ch_box H4.chB; have H4 := hid H4; have hin4 := hid (hin3.out.fr0 hF); clear hF) | (go_at_call 74; refine (HDO.out _ _ _ H4.out hge.out hin4.out).mono ?_; intro e3 w4 hD; obtain ⟨u', rfl, H5, ho⟩ := hD; rw [set_at] at H5; have hNow := ch_box H5.chB; have H5 := hid H5; clear ho))
            go_wp2_with fail
            go_ret2
            exact apply_no HG.out HI.out H5.out
          · rw [hdo] at HDO
            have HG := hid (HX.out.2.1.trans (go_some HX.out.2.2.1 (show u.one x.1 = some u1 by rw [SV.one, if_pos HC0.out]; exact hdo)))
            have HW1 := hid (HWF.out u1 hdo)
            clear hdo
            go_region_held3 (fun wx : World => wx.cell? ⟨wr.heap.size, 0, none⟩ = some (.int .i64 x.1.kind) ∧ wx.cell? ⟨wr.heap.size, 1, none⟩ = some (.int .i64 x.1.n) ∧ wx.cell? ⟨wr.heap.size, 2, none⟩ = some (.int .i64 x.1.job) ∧ wx.cell? ⟨wr.heap.size, 3, none⟩ = some (.int .i64 x.1.badge) ∧ wx.cell? ⟨wr.heap.size, 4, none⟩ = some (.int .i64 x.1.slot) ∧ wx.cell? ⟨wr.heap.size, 5, none⟩ = some (.int .i64 x.1.life) ∧ wx.cell? ⟨wr.heap.size, 6, none⟩ = some (.int .i64 x.1.code) ∧ wx.cell? ⟨wr.heap.size, 7, none⟩ = some (.int .u64 x.1.bits) ∧ wx.cell? ⟨wr.heap.size, 8, none⟩ = some (.string x.1.prog) ∧ wx.cell? ⟨wr.heap.size, 9, none⟩ = some (.slice x.2.a x.1.texts.length x.2.c)) ((first | exact hNow)) (first | (go_at_call 26; refine HCK.out.mono ?_; rintro e1 w2 ⟨rfl, hF⟩; have H3 := H2.out.same hF; have hNow := ch_box H3.chB; have H3 := hid H3; have hin3 := hid (hin.out.fr0 hF); clear hF) | (go_at_call 27; refine (hdw _).mono ?_; rintro e2 w3 ⟨rfl, hF⟩; have H4 := H3.out.same hF; have hNow := ch_box H4.chB; have H4 := hid H4; have hin4 := hid (hin3.out.fr0 hF); clear hF) | (go_at_call 74; refine (HDO.out _ _ _ H4.out hge.out hin4.out).mono ?_; intro e3 w4 hD; obtain ⟨u', rfl, H5, ho⟩ := hD; obtain rfl := ho _ rfl; rw [set_at] at H5; have hNow := ch_box H5.chB; have H5 := hid H5; clear ho))
            clear hNow
            go_wp2_with fail
            refine ⟨⟨k + 1, _, by omega, by push_cast; rfl, HW1.out, HG.out, H5.out.drop⟩, ?_⟩
            simp only [intOf]; omega
        · have hff : doesF x.1.kind = 75 := by rw [e]; rfl
          have HDO := hid (does_one (W := W) (X := X) (t := x.2) HX.out.1 HC0.out hff)
          rw [hff] at hdw
          clear e hff
          rcases hdo : u.does x.1 with _ | u1
          · rw [hdo] at HDO
            have HG := hid (HX.out.2.1.trans (go_none HX.out.2.2.1 (show u.one x.1 = none by rw [SV.one, if_pos HC0.out]; exact hdo)))
            clear hdo
            go_region_held3 (fun wx : World => wx.cell? ⟨wr.heap.size, 0, none⟩ = some (.int .i64 x.1.kind) ∧ wx.cell? ⟨wr.heap.size, 1, none⟩ = some (.int .i64 x.1.n) ∧ wx.cell? ⟨wr.heap.size, 2, none⟩ = some (.int .i64 x.1.job) ∧ wx.cell? ⟨wr.heap.size, 3, none⟩ = some (.int .i64 x.1.badge) ∧ wx.cell? ⟨wr.heap.size, 4, none⟩ = some (.int .i64 x.1.slot) ∧ wx.cell? ⟨wr.heap.size, 5, none⟩ = some (.int .i64 x.1.life) ∧ wx.cell? ⟨wr.heap.size, 6, none⟩ = some (.int .i64 x.1.code) ∧ wx.cell? ⟨wr.heap.size, 7, none⟩ = some (.int .u64 x.1.bits) ∧ wx.cell? ⟨wr.heap.size, 8, none⟩ = some (.string x.1.prog) ∧ wx.cell? ⟨wr.heap.size, 9, none⟩ = some (.slice x.2.a x.1.texts.length x.2.c)) ((first | exact hNow)) (first | (go_at_call 26; refine HCK.out.mono ?_; rintro e1 w2 ⟨rfl, hF⟩; have H3 := H2.out.same hF; have hNow := ch_box H3.chB; have H3 := hid H3; have hin3 := hid (hin.out.fr0 hF); clear hF) | (go_at_call 27; refine (hdw _).mono ?_; rintro e2 w3 ⟨rfl, hF⟩; have H4 := H3.out.same hF; have hNow := ch_box H4.chB; have H4 := hid H4; have hin4 := hid (hin3.out.fr0 hF); clear hF) | (go_at_call 75; refine (HDO.out _ _ _ H4.out hge.out hin4.out).mono ?_; intro e3 w4 hD; obtain ⟨u', rfl, H5, ho⟩ := hD; rw [set_at] at H5; have hNow := ch_box H5.chB; have H5 := hid H5; clear ho))
            go_wp2_with fail
            go_ret2
            exact apply_no HG.out HI.out H5.out
          · rw [hdo] at HDO
            have HG := hid (HX.out.2.1.trans (go_some HX.out.2.2.1 (show u.one x.1 = some u1 by rw [SV.one, if_pos HC0.out]; exact hdo)))
            have HW1 := hid (HWF.out u1 hdo)
            clear hdo
            go_region_held3 (fun wx : World => wx.cell? ⟨wr.heap.size, 0, none⟩ = some (.int .i64 x.1.kind) ∧ wx.cell? ⟨wr.heap.size, 1, none⟩ = some (.int .i64 x.1.n) ∧ wx.cell? ⟨wr.heap.size, 2, none⟩ = some (.int .i64 x.1.job) ∧ wx.cell? ⟨wr.heap.size, 3, none⟩ = some (.int .i64 x.1.badge) ∧ wx.cell? ⟨wr.heap.size, 4, none⟩ = some (.int .i64 x.1.slot) ∧ wx.cell? ⟨wr.heap.size, 5, none⟩ = some (.int .i64 x.1.life) ∧ wx.cell? ⟨wr.heap.size, 6, none⟩ = some (.int .i64 x.1.code) ∧ wx.cell? ⟨wr.heap.size, 7, none⟩ = some (.int .u64 x.1.bits) ∧ wx.cell? ⟨wr.heap.size, 8, none⟩ = some (.string x.1.prog) ∧ wx.cell? ⟨wr.heap.size, 9, none⟩ = some (.slice x.2.a x.1.texts.length x.2.c)) ((first | exact hNow)) (first | (go_at_call 26; refine HCK.out.mono ?_; rintro e1 w2 ⟨rfl, hF⟩; have H3 := H2.out.same hF; have hNow := ch_box H3.chB; have H3 := hid H3; have hin3 := hid (hin.out.fr0 hF); clear hF) | (go_at_call 27; refine (hdw _).mono ?_; rintro e2 w3 ⟨rfl, hF⟩; have H4 := H3.out.same hF; have hNow := ch_box H4.chB; have H4 := hid H4; have hin4 := hid (hin3.out.fr0 hF); clear hF) | (go_at_call 75; refine (HDO.out _ _ _ H4.out hge.out hin4.out).mono ?_; intro e3 w4 hD; obtain ⟨u', rfl, H5, ho⟩ := hD; obtain rfl := ho _ rfl; rw [set_at] at H5; have hNow := ch_box H5.chB; have H5 := hid H5; clear ho))
            clear hNow
            go_wp2_with fail
            refine ⟨⟨k + 1, _, by omega, by push_cast; rfl, HW1.out, HG.out, H5.out.drop⟩, ?_⟩
            simp only [intOf]; omega
        · have hff : doesF x.1.kind = 76 := by rw [e]; rfl
          have HDO := hid (does_one (W := W) (X := X) (t := x.2) HX.out.1 HC0.out hff)
          rw [hff] at hdw
          clear e hff
          rcases hdo : u.does x.1 with _ | u1
          · rw [hdo] at HDO
            have HG := hid (HX.out.2.1.trans (go_none HX.out.2.2.1 (show u.one x.1 = none by rw [SV.one, if_pos HC0.out]; exact hdo)))
            clear hdo
            go_region_held3 (fun wx : World => wx.cell? ⟨wr.heap.size, 0, none⟩ = some (.int .i64 x.1.kind) ∧ wx.cell? ⟨wr.heap.size, 1, none⟩ = some (.int .i64 x.1.n) ∧ wx.cell? ⟨wr.heap.size, 2, none⟩ = some (.int .i64 x.1.job) ∧ wx.cell? ⟨wr.heap.size, 3, none⟩ = some (.int .i64 x.1.badge) ∧ wx.cell? ⟨wr.heap.size, 4, none⟩ = some (.int .i64 x.1.slot) ∧ wx.cell? ⟨wr.heap.size, 5, none⟩ = some (.int .i64 x.1.life) ∧ wx.cell? ⟨wr.heap.size, 6, none⟩ = some (.int .i64 x.1.code) ∧ wx.cell? ⟨wr.heap.size, 7, none⟩ = some (.int .u64 x.1.bits) ∧ wx.cell? ⟨wr.heap.size, 8, none⟩ = some (.string x.1.prog) ∧ wx.cell? ⟨wr.heap.size, 9, none⟩ = some (.slice x.2.a x.1.texts.length x.2.c)) ((first | exact hNow)) (first | (go_at_call 26; refine HCK.out.mono ?_; rintro e1 w2 ⟨rfl, hF⟩; have H3 := H2.out.same hF; have hNow := ch_box H3.chB; have H3 := hid H3; have hin3 := hid (hin.out.fr0 hF); clear hF) | (go_at_call 27; refine (hdw _).mono ?_; rintro e2 w3 ⟨rfl, hF⟩; have H4 := H3.out.same hF; have hNow := ch_box H4.chB; have H4 := hid H4; have hin4 := hid (hin3.out.fr0 hF); clear hF) | (go_at_call 76; refine (HDO.out _ _ _ H4.out hge.out hin4.out).mono ?_; intro e3 w4 hD; obtain ⟨u', rfl, H5, ho⟩ := hD; rw [set_at] at H5; have hNow := ch_box H5.chB; have H5 := hid H5; clear ho))
            go_wp2_with fail
            go_ret2
            exact apply_no HG.out HI.out H5.out
          · rw [hdo] at HDO
            have HG := hid (HX.out.2.1.trans (go_some HX.out.2.2.1 (show u.one x.1 = some u1 by rw [SV.one, if_pos HC0.out]; exact hdo)))
            have HW1 := hid (HWF.out u1 hdo)
            clear hdo
            go_region_held3 (fun wx : World => wx.cell? ⟨wr.heap.size, 0, none⟩ = some (.int .i64 x.1.kind) ∧ wx.cell? ⟨wr.heap.size, 1, none⟩ = some (.int .i64 x.1.n) ∧ wx.cell? ⟨wr.heap.size, 2, none⟩ = some (.int .i64 x.1.job) ∧ wx.cell? ⟨wr.heap.size, 3, none⟩ = some (.int .i64 x.1.badge) ∧ wx.cell? ⟨wr.heap.size, 4, none⟩ = some (.int .i64 x.1.slot) ∧ wx.cell? ⟨wr.heap.size, 5, none⟩ = some (.int .i64 x.1.life) ∧ wx.cell? ⟨wr.heap.size, 6, none⟩ = some (.int .i64 x.1.code) ∧ wx.cell? ⟨wr.heap.size, 7, none⟩ = some (.int .u64 x.1.bits) ∧ wx.cell? ⟨wr.heap.size, 8, none⟩ = some (.string x.1.prog) ∧ wx.cell? ⟨wr.heap.size, 9, none⟩ = some (.slice x.2.a x.1.texts.length x.2.c)) ((first | exact hNow)) (first | (go_at_call 26; refine HCK.out.mono ?_; rintro e1 w2 ⟨rfl, hF⟩; have H3 := H2.out.same hF; have hNow := ch_box H3.chB; have H3 := hid H3; have hin3 := hid (hin.out.fr0 hF); clear hF) | (go_at_call 27; refine (hdw _).mono ?_; rintro e2 w3 ⟨rfl, hF⟩; have H4 := H3.out.same hF; have hNow := ch_box H4.chB; have H4 := hid H4; have hin4 := hid (hin3.out.fr0 hF); clear hF) | (go_at_call 76; refine (HDO.out _ _ _ H4.out hge.out hin4.out).mono ?_; intro e3 w4 hD; obtain ⟨u', rfl, H5, ho⟩ := hD; obtain rfl := ho _ rfl; rw [set_at] at H5; have hNow := ch_box H5.chB; have H5 := hid H5; clear ho))
            clear hNow
            go_wp2_with fail
            refine ⟨⟨k + 1, _, by omega, by push_cast; rfl, HW1.out, HG.out, H5.out.drop⟩, ?_⟩
            simp only [intOf]; omega
      · have huo' : u.one x.1 = none := by rw [SV.one, if_neg hc]
        have HG := hid (HX.out.2.1.trans (go_none HX.out.2.2.1 huo'))
        have hne : (x.1.check == 0) = false := by rw [beq_eq_false_iff_ne]; exact hc
        have hne2 : (x.1.check != 0) = true := by simp [bne, hne]
        have HK := hid (show ∀ wx, Fr [] (wr.alloc (chO x.1 x.2)) wx → wx.cell? ⟨wr.heap.size, 0, none⟩ = some (.int .i64 x.1.kind) ∧ wx.cell? ⟨wr.heap.size, 1, none⟩ = some (.int .i64 x.1.n) ∧ wx.cell? ⟨wr.heap.size, 2, none⟩ = some (.int .i64 x.1.job) ∧ wx.cell? ⟨wr.heap.size, 3, none⟩ = some (.int .i64 x.1.badge) ∧ wx.cell? ⟨wr.heap.size, 4, none⟩ = some (.int .i64 x.1.slot) ∧ wx.cell? ⟨wr.heap.size, 5, none⟩ = some (.int .i64 x.1.life) ∧ wx.cell? ⟨wr.heap.size, 6, none⟩ = some (.int .i64 x.1.code) ∧ wx.cell? ⟨wr.heap.size, 7, none⟩ = some (.int .u64 x.1.bits) ∧ wx.cell? ⟨wr.heap.size, 8, none⟩ = some (.string x.1.prog) ∧ wx.cell? ⟨wr.heap.size, 9, none⟩ = some (.slice x.2.a x.1.texts.length x.2.c) from
          fun wx h => ch_box (h.keep (blk_alloc_at wr (chO x.1 x.2) wr.heap.size rfl) (by simp)))
        have hin0 := hid (show In (wr.alloc (chO x.1 x.2)) 1 x.2.a x.1.texts.length x.2.c (sL.at_ x.1.texts) from hone.out.1.fr0 ((Fr.refl _ _).alloc _))
        have H0 := hid (HX.out.2.2.2.alloc (chO x.1 x.2))
        clear hck huo' hc hNow hin hge
        refine wp_region_calm (S := fun wx : World => Fr [] (wr.alloc (chO x.1 x.2)) wx) (by kernel_rfl) (by kernel_rfl) ((Fr.refl _ _).drew) ?_
        repeat (first | (refine calmRow_free (v := ?_) rfl ?_ ?_; rotate_left; (focus (intro wx hSx; (try dsimp only at hSx); have hcx := HK.out wx hSx; go_simp; (first | with_reducible rfl | exact ⟨rfl, hSx⟩ | (refine (check_walk _ x.1 x.2 (hin0.out.fr0 hSx)).mono ?_; rintro e w1 ⟨rfl, hF1⟩; refine ⟨?_, hSx.trans hF1⟩; with_reducible rfl)))); (try simp only [Act.put, List.setIfInBounds_toArray, List.set_cons_zero, List.set_cons_succ])) | (refine calmRow_skip ?_ ?_; (focus (go_simp; (try (intro hx; cases hx)); done)); (try simp only [Act.put, List.setIfInBounds_toArray, List.set_cons_zero, List.set_cons_succ])) | (refine calmRow_take (v := ?_) ?_ ?_ ?_; rotate_left; (focus (go_simp; done)); (focus (intro wx hSx; (try dsimp only at hSx); have hcx := HK.out wx hSx; go_simp; (first | with_reducible rfl | exact ⟨rfl, hSx⟩ | (refine (check_walk _ x.1 x.2 (hin0.out.fr0 hSx)).mono ?_; rintro e w1 ⟨rfl, hF1⟩; refine ⟨?_, hSx.trans hF1⟩; with_reducible rfl)))); (try simp only [Act.put, List.setIfInBounds_toArray, List.set_cons_zero, List.set_cons_succ])))
        refine calmRow_nil ?_
        intro wn hFx
        try dsimp only at hFx
        go_wp2_with fail
        go_ret2
        have H3 := hid (H0.out.same hFx)
        exact apply_no HG.out HI.out H3.out
    · have hkk : k = n := by omega
      subst hkk
      have HG : v.go (l.map (·.1)) 0 = .ok u := by
        rw [hgo, List.drop_eq_nil_of_le (by rw [List.length_map, hlen.out]; exact Nat.le_refl _)]
        rfl
      obtain ⟨Q, pv, lv, ll, hll, H1⟩ := H.sk R.length (S := X) (v := u) (by simp)
      rw [set_one] at H1
      obtain ⟨pa, pc, rfl, _⟩ := H1.rowShape _ sk_get2
      obtain ⟨la, lc, rfl, _⟩ := H1.rowShape _ sk_get3
      obtain ⟨Q2, pv2, lv2, ll2, hll2, H2⟩ := H1.sk i (by rw [List.append_assoc]; exact get_l HI.out)
      have b1 := H1.skS
      have x0 := cell_blk (i := 0) b1 rfl
      have x1 := cell_blk (i := 1) b1 rfl
      have x2 := cell_blk (i := 2) b1 rfl
      have x3 := cell_blk (i := 3) b1 rfl
      have b2 := H2.skS
      have y0 := cell_blk (i := 0) b2 rfl
      have y1 := cell_blk (i := 1) b2 rfl
      have y2 := cell_blk (i := 2) b2 rfl
      have y3 := cell_blk (i := 3) b2 rfl
      have f0 := free_blk (i := 0) b2
      have f1 := free_blk (i := 1) b2
      have f2 := free_blk (i := 2) b2
      have f3 := free_blk (i := 3) b2
      have HH2 := hid H2
      have HG := hid HG
      have HLL := hid hll
      have HHH := hid H
      clear b1 b2 hgo huw hlt hk H H1 H2 hll hll2
      go_wp2_with fail
      go_ret2
      exact apply_yes hil HG.out HLL.out HH2.out
end
end Go.Proofs.YtmgnekjhlfghaaaGreat
