/-
  Merged, in build order: Wr T7 T8 T9 TA.
-/
import Derived.Deep.DeepCutAuto
import Derived.Deep.CutRange
import Derived.Test.YtmgnekjhlfghaaaGreatM1
import Derived.Test.YtmgnekjhlfghaaaGreatM4
import Derived.Test.YtmgnekjhlfghaaaGreatM21
import Derived.Test.YtmgnekjhlfghaaaGreatM25
import Derived.Deep.RegionHeld3
import Derived.Test.YtmgnekjhlfghaaaGreatM22
/-
  The laws of layer 17: wreck: a view is written over.
-/
namespace Go.Proofs.YtmgnekjhlfghaaaGreat
open Go.RowKit
set_option linter.unusedVariables false
set_option linter.unusedSimpArgs false

/-- append of some behind a row without room, as a step: the row is a new one. -/
theorem stepFull {P : Program} {ops : Array Oper} {w : World} {o : Oper} {a : Act} {K : Act → World → Prop} {Q : Exit → Act → World → Prop} {E : Prop} (hgd : o.guard = none) (s x : Operand) (t : TypeId)
    (ho : o.op = .call { callee := .builtin .append, args := #[s, x], argTypes := #[t, t] })
    (e : TypeId) (i : TypeInfo) (z : Value) (size bytes : Nat) (ht : P.underlying t = some (.slice e)) (hi : P.info? e = some i) (hz : i.zero = some z)
    (hsize : i.size = size) (hby : i.bytes = bytes) (hzs : z.cells.size = size) (hsz : 0 < size)
    (ao : Option Addr) (n : Nat) (V : Nat → Value) (hs : a.eval s = .slice ao n n) (hI : In w size ao n n V)
    (ad : Addr) (m c : Nat) (news : List Value) (hx : a.eval x = .slice (some ad) m c) (hm : 0 < m) (hl : news.length = m * size) (hnews : ∀ j u, news[j]? = some u → w.cell? (ad.add j) = some u) (h1 : ∀ u ∈ news, u.oneCell' = true)
    (h63 : n + m ≤ maxLen) (hbytes : (n + m) * bytes ≤ 140737488355328)
    (h : ∀ g cap w', Fr [] w w' → K (a.put o.dst (.slice (some ⟨g, 0, none⟩) (n + m) cap)) w') : if Region.wanted o (yielded ops a.tmps) = true then Oper.wp P o a w K Q else E := by
  have hw : Region.wanted o (yielded ops a.tmps) = true := by simp [Region.wanted, hgd]
  rw [if_pos hw]
  have hold : (Builtin.firstCells i.size n (.slice ao n n)).run P w.drew = .ok ((List.range (n * size)).map V).toArray w.drew := by
    rw [hsize]
    rcases ao with _ | b
    · have hn : n = 0 := by
        rcases Nat.eq_zero_or_pos n with h0 | h0
        · exact h0
        · obtain ⟨b, off, hb⟩ := hI.sm h0; simp at hb
      subst hn
      simpa using run_firstCells_none (P := P) w.drew size 0 0 0
    · refine run_firstCells_some w.drew size n b n n _ (by simp) ?_
      intro j u hu
      have hj : j < n * size := by
        rcases Nat.lt_or_ge j (n * size) with h2 | h2
        · exact h2
        · rw [List.getElem?_eq_none (by simpa using h2)] at hu; simp at hu
      have hn : 0 < n := by
        rcases Nat.eq_zero_or_pos n with h0 | h0
        · subst h0; omega
        · exact h0
      obtain ⟨b', off, hb⟩ := hI.sm hn
      simp only [Option.some.injEq] at hb
      subst hb
      have e1 : (⟨b', off, none⟩ : Addr).add j = ⟨b', off + j, none⟩ := by unfold Addr.add; by_cases hj : j = 0 <;> simp [hj]
      rw [e1]
      show w.cell? _ = _
      rw [hI.cell b' off rfl j hj]
      simpa [hj] using hu
  have hr := run_append_grow_src (P := P) w t t o.type e i z ht hi hz ao n n _ hold (.slice (some ad) m c) m news (by rw [hsize]; exact Src.ofSlice w ht ad m c news hl hnews h1) (by omega) (by unfold maxLen at h63; omega) (growslice_fits (by omega) (by rw [hby]; exact hbytes))
  unfold Oper.wp execOp
  simp only [ho, resolve, invoke, builtin, Sem.run_bind, Sem.run_pure, Result.andThen_ok, List.map_toArray, List.map_cons, List.map_nil, hs, hx, hr]
  exact h _ _ _ ((Fr.refl [] w).drew.alloc _)

/-- A log that may be written over. -/
def lgW (x : PV × TS) : Thing := WrT 9 1 x.2.a x.1.log.length
/-- What wreck writes over. -/
def wrZ (R : List Thing) (a : Option Addr) (l : List (PV × TS)) (V : Nat → Value) (wb : Nat) (res : Int) (c : Nat) : List Thing :=
  (R ++ (WvT 53 10 a l.length V :: l.map lgW)) ++ [BlkT wb (.cells #[.int .i64 res, .slice a l.length c] 34)]

section
variable {W : Base} {w : World} {R : List Thing}
theorem St.wrStart (H : St W w R) (i : Nat) {a : Option Addr} {l : List (PV × TS)} (hi : R[i]? = some (VwT a l)) : St W w (R.set i NilT ++ (WvT 53 10 a l.length (pL.at_ l) :: l.map lgW)) := by
  obtain ⟨F, hA, hB⟩ := H.unpackG i hi
  have h1 := hB _ hA
  refine h1.weaken (by simp [vw1]) (fun k A A' hk hk' => ?_)
  by_cases hlt : k < (R.set i NilT).length
  · rw [List.getElem?_append_left hlt] at hk hk'
    rw [hk] at hk'
    exact .inl (Option.some.inj hk').symm
  · obtain ⟨j, rfl⟩ : ∃ j, k = (R.set i NilT).length + j := ⟨k - (R.set i NilT).length, by omega⟩
    rw [get_behind] at hk hk'
    match j with
    | 0 =>
      simp [vw1, WvT] at hk hk'
      exact .inl (hk'.symm.trans hk)
    | j + 1 =>
      simp only [vw1, List.map_cons, List.map_map, List.getElem?_cons_succ, List.getElem?_map] at hk hk'
      cases hx : l[j]? with
      | none => rw [hx] at hk; cases hk
      | some x =>
        rw [hx] at hk hk'
        simp only [Option.map_some, Option.some.injEq] at hk hk'
        subst hk hk'
        refine .inr ⟨(inferInstance : Loc (own (Wr1 _ _ _ _))), fun F G h => ?_⟩
        obtain ⟨h1, h2, h3⟩ := h
        exact ⟨h1, h2, _, h3⟩
variable {a : Option Addr} {l : List (PV × TS)} {V : Nat → Value} {wb : Nat} {res : Int} {c : Nat}
theorem St.wrBox {T : List Thing} (H : St W w (wrZ R a l V wb res c ++ T)) : w.heap[wb]? = some (.cells #[.int .i64 res, .slice a l.length c] 34 (0, 0)) := St.chB (T := R ++ (WvT 53 10 a l.length V :: l.map lgW)) H.drop
theorem St.wrRow {T : List Thing} (H : St W w (wrZ R a l V wb res c ++ T)) : WRow w 53 10 a l.length V := by
  have h := H.drop.drop
  exact h.wv (R.length + 0) (by rw [get_behind]; rfl)
theorem St.wrLog {T : List Thing} {k : Nat} {x : PV × TS} (hx : l[k]? = some x) (H : St W w (wrZ R a l V wb res c ++ T)) : ∃ U, WRow w 9 1 x.2.a x.1.log.length U := by
  have h := H.drop.drop
  exact h.wr (R.length + (k + 1)) (by rw [get_behind]; show (l.map lgW)[k]? = _; rw [List.getElem?_map, hx]; rfl)
theorem St.wrSetLog {k g : Nat} {x : PV × TS} (hx : l[k]? = some x) (hg : x.2.a = some ⟨g, 0, none⟩) (H : St W w (wrZ R a l V wb res c)) (j : Nat) (v : Value) : St W (w.setCell ⟨g, j, none⟩ v) (wrZ R a l V wb res c) := by
  refine H.setWr (R.length + (k + 1)) (e := 9) (sz := 1) (n := x.1.log.length) ?_ j v
  unfold wrZ
  rw [List.append_assoc, get_behind, List.getElem?_append_left (by simp; have := (List.getElem?_eq_some_iff.1 hx).1; omega)]
  show (l.map lgW)[k]? = _
  rw [List.getElem?_map, hx, ← hg]; rfl
theorem St.wrSetRow {g : Nat} (H : St W w (wrZ R (some ⟨g, 0, none⟩) l V wb res c)) (j : Nat) (v : Value) : St W (w.setCell ⟨g, j, none⟩ v) (wrZ R (some ⟨g, 0, none⟩) l (fun i => if i = j then v else V i) wb res c) := by
  unfold wrZ at H ⊢
  rw [List.append_assoc] at H
  have h := H.setWv (R.length + 0) (by rw [get_behind]; rfl) j v
  rw [set_behind] at h
  rw [List.append_assoc]
  exact h
end
set_option maxHeartbeats 1000000 in
set_option maxRecDepth 100000 in
theorem st_wreck {W : Base} {w : World} {R : List Thing} (H : St W w R) (i : Nat) {a : Option Addr} {l : List (PV × TS)} (hi : R[i]? = some (VwT a l)) (hc : ∀ x, x ∈ l → x.2.c = x.1.log.length) (h8 : l.length ≤ 8) (h32 : ∀ x, x ∈ l → x.1.log.length ≤ 32) (res : Int) (c : Nat) (hcl : l.length ≤ c) (hcm : c ≤ 9223372036854775807) :
    Calls Tryz.prog 11 #[.agg #[.int .i64 res, .slice a l.length c]] w fun e w' => e = .returned (.tuple #[]) ∧ St W w' (R.set i NilT) := by
  obtain ⟨i0, hi0, hz0, hz1, hz2⟩ := info_parts info_gs
  have HI := hid (And.intro hi0 (And.intro hz0 (And.intro hz1 hz2)))
  have HC := hid (And.intro hc (And.intro h8 h32))
  have H1 := hid (show St W (w.alloc (.cells #[.int .i64 res, .slice a l.length c] 34)) (wrZ (R.set i NilT) a l (pL.at_ l) w.heap.size res c) from (H.wrStart i hi).alloc _)
  obtain ⟨wb, hwb⟩ : ∃ wb, w.heap.size = wb := ⟨_, rfl⟩
  rw [hwb] at H1
  have HW := hid hwb
  obtain ⟨T, hT⟩ : ∃ T, R.set i NilT = T := ⟨_, rfl⟩
  rw [hT] at H1 ⊢
  clear H hi hc h8 h32 hi0 hz0 hz1 hz2 hwb hT
  go_enter Tryz.func11, Tryz.ntmps11
  go_wp2_with fail
  rw [HW.out]
  go_loopw [2] (fun iv wr => ∃ (k : Nat) (V : Nat → Value), k ≤ l.length ∧ iv = .int .i64 k ∧ Hid ((∀ j, k * 10 ≤ j → V j = pL.at_ l j) ∧ St W wr (wrZ T a l V wb res c))) (fun iv _ => l.length - (intOf iv).toNat)
  case atStart => exact ⟨0, _, Nat.zero_le _, rfl, hid ⟨fun _ _ => rfl, H1.out⟩⟩
  case round =>
    clear H1
    obtain ⟨k, V, hk, rfl, HV⟩ := hrel
    have hb := St.wrBox (T := []) (by rw [List.append_nil]; exact HV.out.2)
    have b1 := cell_blk (i := 1) hb rfl
    have hlb := lt_of_block hb
    by_cases hlt : k < l.length
    · have hW := St.wrRow (T := []) (by rw [List.append_nil]; exact HV.out.2)
      obtain ⟨g, rfl⟩ := hW.sm (by omega)
      obtain ⟨x, hx⟩ : ∃ x, l[k]? = some x := ⟨_, List.getElem?_eq_getElem hlt⟩
      have hmem := List.mem_of_getElem? hx
      have hxn : pL.nth l k = x := by have := pL.nth_get hlt; rw [hx] at this; exact (Option.some.inj this).symm
      have r9 := hW.cell (k * 10 + 9) (by omega)
      have ev : V (k * 10 + 9) = .slice x.2.a x.1.log.length x.1.log.length := by
        rw [HV.out.1 _ (by omega), show k * 10 + 9 = k * pL.sz + 9 from rfl, pL.at_add _ _ 9 (by decide), hxn]
        show Value.slice x.2.a x.1.log.length x.2.c = _
        rw [HC.out.1 x hmem]
      rw [ev, Nat.zero_add] at r9
      have hn32 := HC.out.2.2 x hmem
      obtain ⟨n, hn⟩ : ∃ n : Nat, x.1.log.length = n := ⟨_, rfl⟩
      rw [hn] at r9 hn32
      have HX := hid (And.intro hx (And.intro hn (And.intro hn32 hlt)))
      have HS := hid (show ∀ (wx : World), St W wx (wrZ T (some ⟨g, 0, none⟩) l V wb res c) → wx.cell? ⟨wb, 1, none⟩ = some (.slice (some ⟨g, 0, none⟩) l.length c) ∧ wx.cell? ⟨g, k * 10 + 9, none⟩ = some (.slice x.2.a n n) from fun wx h => by
        have h1 := cell_blk (i := 1) (St.wrBox (T := []) (by rw [List.append_nil]; exact h)) rfl
        have h2 := (St.wrRow (T := []) (by rw [List.append_nil]; exact h)).cell (k * 10 + 9) (by omega)
        rw [ev, Nat.zero_add, hn] at h2
        exact ⟨h1, h2⟩)
      have hk0 : (0 : Int) ≤ k := by omega
      have hk1 : (k : Int) < l.length := by omega
      clear hW hx hmem hxn ev hn hn32 hlt hk hb
      go_wp2_with fail
      obtain ⟨wo, hwo⟩ : ∃ wo : World, wo = wr := ⟨_, rfl⟩
      go_loopw [3] (fun jv wi => ∃ j : Nat, j ≤ n ∧ jv = .int .i64 j ∧ Hid (St W wi (wrZ T (some ⟨g, 0, none⟩) l V wb res c))) (fun jv _ => n - (intOf jv).toNat)
      case atStart => exact ⟨0, Nat.zero_le _, rfl, hid HV.out.2⟩
      case round =>
        obtain ⟨j, hj, rfl, HJ⟩ := hrel
        obtain ⟨b1, r9⟩ := HS.out _ HJ.out
        have hlb := lt_of_block (St.wrBox (T := []) (by rw [List.append_nil]; exact HJ.out))
        have hn32 : n ≤ 32 := HX.out.2.2.1
        by_cases hjl : j < n
        · obtain ⟨U, hU⟩ := St.wrLog (T := []) HX.out.1 (by rw [List.append_nil]; exact HJ.out)
          rw [HX.out.2.1] at hU
          obtain ⟨g2, hg2⟩ := hU.sm (by omega)
          rw [hg2] at r9 hU
          have u0 := hU.cell j (by omega)
          have u1 := hU.free j
          rw [Nat.zero_add] at u0 u1
          have HJ2 := hid (HJ.out.wrSetLog HX.out.1 hg2 j (.string ⟨#[111, 118, 101, 114]⟩))
          have HJL := hid hjl
          have H32 := hid hn32
          have hj0 : (0 : Int) ≤ j := by omega
          have hj1 : (j : Int) < n := by omega
          clear hU hg2 hjl hj hn32
          go_wp2_with fail
          go_roundw
          case rel => have := HJL.out; have := H32.out; exact ⟨j + 1, HJL.out, by rw [IntWalk.wrap64_in _ (by omega)]; rfl, HJ2⟩
          case measure => have := HJL.out; have := H32.out; rw [IntWalk.wrap64_in _ (by omega)]; simp [intOf]; omega
        · have hj1 : ¬ (j : Int) < n := by omega
          obtain ⟨U, hU⟩ := St.wrLog (T := []) HX.out.1 (by rw [List.append_nil]; exact HJ.out)
          rw [HX.out.2.1] at hU
          have HM := hid (show n + 1 ≤ maxLen ∧ (n + 1) * 16 ≤ 140737488355328 from by unfold maxLen; omega)
          have HLK := hid (show ∀ wx, St W wx (wrZ T (some ⟨g, 0, none⟩) l V wb res c) → ∃ U, In wx 1 x.2.a n n U from fun wx h => by
            obtain ⟨U, hU⟩ := St.wrLog (T := []) HX.out.1 (by rw [List.append_nil]; exact h)
            rw [HX.out.2.1] at hU
            exact ⟨U, hU.toIn (Nat.le_refl _) (by have := HM.out.1; omega)⟩)
          have HHV := hid HV.out.1
          clear hU hjl hj hn32
          go_wp2_with fail
          refine wp_region_U (S := fun wx : World => wx.cell? ⟨wb, 1, none⟩ = some (.slice (some ⟨g, 0, none⟩) l.length c) ∧ wx.cell? ⟨g, k * 10 + 9, none⟩ = some (.slice x.2.a n n)) 13 (by kernel_rfl) (HS.out _ HJ.out.drew) (fun hHeld => ?_)
          refine takeU (i := 0) (d := 30) (v := ?_) rfl rfl (by kernel_rfl) (by kernel_rfl) (by kernel_rfl) (by kernel_rfl) (by kernel_rfl) (fun _ _ _ h => h) (Or.inl ⟨by rfl, ?_⟩) hHeld ?_
          rotate_left
          · intro wq hSw; (try dsimp only at hSw); go_simp; all_goals (with_reducible rfl)
          simp only [Act.put, List.setIfInBounds_toArray, List.set_cons_zero, List.set_cons_succ]
          refine takeU (i := 1) (d := 31) (v := ?_) rfl rfl (by kernel_rfl) (by kernel_rfl) (by kernel_rfl) (by kernel_rfl) (by kernel_rfl) (fun _ _ _ h => h) (Or.inl ⟨by rfl, ?_⟩) hHeld ?_
          rotate_left
          · intro wq hSw; (try dsimp only at hSw); go_simp; all_goals (with_reducible rfl)
          simp only [Act.put, List.setIfInBounds_toArray, List.set_cons_zero, List.set_cons_succ]
          refine takeU (i := 2) (d := 32) (v := ?_) rfl rfl (by kernel_rfl) (by kernel_rfl) (by kernel_rfl) (by kernel_rfl) (by kernel_rfl) (fun _ _ _ h => h) (Or.inl ⟨by rfl, ?_⟩) hHeld ?_
          rotate_left
          · intro wq hSw; (try dsimp only at hSw); go_simp; all_goals (with_reducible rfl)
          simp only [Act.put, List.setIfInBounds_toArray, List.set_cons_zero, List.set_cons_succ]
          refine takeU (i := 3) (d := 33) (v := ?_) rfl rfl (by kernel_rfl) (by kernel_rfl) (by kernel_rfl) (by kernel_rfl) (by kernel_rfl) (fun _ _ _ h => h) (Or.inl ⟨by rfl, ?_⟩) hHeld ?_
          rotate_left
          · intro wq hSw; (try dsimp only at hSw); go_simp; all_goals (with_reducible rfl)
          simp only [Act.put, List.setIfInBounds_toArray, List.set_cons_zero, List.set_cons_succ]
          refine takeU (i := 4) (d := 34) (v := ?_) rfl rfl (by kernel_rfl) (by kernel_rfl) (by kernel_rfl) (by kernel_rfl) (by kernel_rfl) (fun _ _ _ h => h) (Or.inl ⟨by rfl, ?_⟩) hHeld ?_
          rotate_left
          · intro wq hSw; (try dsimp only at hSw); go_simp; all_goals (with_reducible rfl)
          simp only [Act.put, List.setIfInBounds_toArray, List.set_cons_zero, List.set_cons_succ]
          refine takeU (i := 5) (d := 35) (v := ?_) rfl rfl (by kernel_rfl) (by kernel_rfl) (by kernel_rfl) (by kernel_rfl) (by kernel_rfl) (fun _ _ _ h => h) (Or.inl ⟨by rfl, ?_⟩) hHeld ?_
          rotate_left
          · intro wq hSw; (try dsimp only at hSw); go_simp; all_goals (with_reducible rfl)
          simp only [Act.put, List.setIfInBounds_toArray, List.set_cons_zero, List.set_cons_succ]
          refine takeU (i := 6) (d := 36) (v := ?_) rfl rfl (by kernel_rfl) (by kernel_rfl) (by kernel_rfl) (by kernel_rfl) (by kernel_rfl) (fun _ _ _ h => h) (Or.inl ⟨by rfl, ?_⟩) hHeld ?_
          rotate_left
          · intro wq hSw; (try dsimp only at hSw); go_simp; all_goals (with_reducible rfl)
          simp only [Act.put, List.setIfInBounds_toArray, List.set_cons_zero, List.set_cons_succ]
          refine takeU (i := 7) (d := 37) (v := ?_) rfl rfl (by kernel_rfl) (by kernel_rfl) (by kernel_rfl) (by kernel_rfl) (by kernel_rfl) (fun _ _ _ h => h) (Or.inl ⟨by rfl, ?_⟩) hHeld ?_
          rotate_left
          · intro wq hSw; (try dsimp only at hSw); go_simp; all_goals (with_reducible rfl)
          simp only [Act.put, List.setIfInBounds_toArray, List.set_cons_zero, List.set_cons_succ]
          refine takeU (i := 8) (d := 38) (v := ?_) rfl rfl (by kernel_rfl) (by kernel_rfl) (by kernel_rfl) (by kernel_rfl) (by kernel_rfl) (fun _ _ _ h => h) (Or.inl ⟨by rfl, ?_⟩) hHeld ?_
          rotate_left
          · intro wq hSw; (try dsimp only at hSw); go_simp; all_goals (with_reducible rfl)
          simp only [Act.put, List.setIfInBounds_toArray, List.set_cons_zero, List.set_cons_succ]
          refine wpAnyU_ready (rs := [9]) (by kernel_rfl) (by simp) ?_
          refine AllReadyU.cons rfl (fun K hK => ?_) AllReadyU.nil
          go_simp
          have H5 := hid (HJ.out.drew.alloc_ (.cells #[.string ⟨#[109, 111, 114, 101]⟩] 9))
          refine hK.out _ _ (fun _ => HS.out _ H5.out) (fun hHeld => ?_)
          clear hK K
          refine wpAnyU_ready (rs := [10]) (by kernel_rfl) (by simp) ?_
          refine AllReadyU.cons rfl (fun K hK => ?_) AllReadyU.nil
          obtain ⟨U, hU⟩ := HLK.out _ H5.out
          refine stepFull rfl (.tmp 38) (.tmp 39) 41 rfl 9 i0 (.string ByteArray.empty) 1 16 Tryz.underlying41 HI.out.1 HI.out.2.1 HI.out.2.2.1 HI.out.2.2.2 rfl (by decide) x.2.a n U rfl hU ⟨wr.heap.size, 0, none⟩ 1 1 [.string ⟨#[109, 111, 114, 101]⟩] rfl (by decide) rfl (news_alloc wr.drew [.string ⟨#[109, 111, 114, 101]⟩] 9) (by intro u hu; simp at hu; subst hu; rfl) HM.out.1 HM.out.2 ?_
          intro g5 c5 w5 hF5
          have H6 := hid (H5.out.same hF5)
          clear hF5 hU
          refine hK.out _ _ (fun _ => HS.out _ H6.out) (fun hHeld => ?_)
          clear hK K
          have hHeld := hHeld (by decide)
          refine takeU (i := 11) (d := 41) (v := ?_) rfl rfl (by kernel_rfl) (by kernel_rfl) (by kernel_rfl) (by kernel_rfl) (by kernel_rfl) (fun _ _ _ h => h) (Or.inl ⟨by rfl, ?_⟩) hHeld ?_
          rotate_left
          · intro wq hSw; (try dsimp only at hSw); go_simp; all_goals (with_reducible rfl)
          simp only [Act.put, List.setIfInBounds_toArray, List.set_cons_zero, List.set_cons_succ]
          refine takeU (i := 12) (d := 42) (v := ?_) rfl rfl (by kernel_rfl) (by kernel_rfl) (by kernel_rfl) (by kernel_rfl) (by kernel_rfl) (fun _ _ _ h => h) (Or.inl ⟨by rfl, ?_⟩) hHeld ?_
          rotate_left
          · intro wq hSw; (try dsimp only at hSw); go_simp; all_goals (with_reducible rfl)
          simp only [Act.put, List.setIfInBounds_toArray, List.set_cons_zero, List.set_cons_succ]
          have hW := St.wrRow (T := []) (by rw [List.append_nil]; exact H6.out)
          have n9 := hW.free (k * 10 + 9)
          rw [Nat.zero_add] at n9
          clear hW
          refine wpAnyU_ready (rs := [13]) (by kernel_rfl) (by simp) ?_
          refine AllReadyU.cons rfl (fun K hK => ?_) AllReadyU.nil
          go_simp
          have H7 := hid (H6.out.wrSetRow (k * 10 + 9) (.slice (some ⟨g5, 0, none⟩) (n + 1) c5))
          refine hK.out _ _ (fun h => absurd rfl h) (fun _ => ?_)
          clear hK K n9 b1 r9 hlb
          refine wpAnyU_done (by kernel_rfl) ?_ _
          clear hHeld
          generalize w5.setCell ⟨g, k * 10 + 9, none⟩ _ = w6 at H7 ⊢
          have hb := St.wrBox (T := []) (by rw [List.append_nil]; exact H7.out)
          have b1 := cell_blk (i := 1) hb rfl
          have hlb := lt_of_block hb
          have hkl := HX.out.2.2.2
          have hW := St.wrRow (T := []) (by rw [List.append_nil]; exact H7.out)
          have zz0 := hW.cell (k * 10) (by omega)
          have yy0 := hW.free (k * 10)
          rw [Nat.zero_add] at zz0 yy0
          have zz1 := hW.cell (k * 10 + 1) (by omega)
          have yy1 := hW.free (k * 10 + 1)
          rw [Nat.zero_add] at zz1 yy1
          have zz2 := hW.cell (k * 10 + 2) (by omega)
          have yy2 := hW.free (k * 10 + 2)
          rw [Nat.zero_add] at zz2 yy2
          have zz3 := hW.cell (k * 10 + 3) (by omega)
          have yy3 := hW.free (k * 10 + 3)
          rw [Nat.zero_add] at zz3 yy3
          have zz4 := hW.cell (k * 10 + 4) (by omega)
          have yy4 := hW.free (k * 10 + 4)
          rw [Nat.zero_add] at zz4 yy4
          have zz5 := hW.cell (k * 10 + 5) (by omega)
          have yy5 := hW.free (k * 10 + 5)
          rw [Nat.zero_add] at zz5 yy5
          have zz6 := hW.cell (k * 10 + 6) (by omega)
          have yy6 := hW.free (k * 10 + 6)
          rw [Nat.zero_add] at zz6 yy6
          have zz7 := hW.cell (k * 10 + 7) (by omega)
          have yy7 := hW.free (k * 10 + 7)
          rw [Nat.zero_add] at zz7 yy7
          clear hW hb hkl H6 H5
          go_wp2_with fail
          have h1 := H7.out.wrSetRow (k * 10) (.int .i64 (-7))
          have h2 := h1.wrSetRow (k * 10 + 1) (.int .i64 0)
          have h3 := h2.wrSetRow (k * 10 + 2) (.int .i64 0)
          have h4 := h3.wrSetRow (k * 10 + 3) (.int .i64 0)
          have h5 := h4.wrSetRow (k * 10 + 4) (.int .i64 0)
          have h6 := h5.wrSetRow (k * 10 + 5) (.int .i64 0)
          have h7 := h6.wrSetRow (k * 10 + 6) (.int .i64 0)
          have h8 := h7.wrSetRow (k * 10 + 7) (.int .u64 0)
          have H8 := hid h8
          clear h1 h2 h3 h4 h5 h6 h7 h8 zz0 yy0 zz1 yy1 zz2 yy2 zz3 yy3 zz4 yy4 zz5 yy5 zz6 yy6 zz7 yy7 b1 hlb
          have h8l := HC.out.2.1
          go_roundw
          case rel =>
            have hkl := HX.out.2.2.2
            refine ⟨k + 1, _, hkl, by push_cast; rfl, hid ⟨fun q hq => ?_, H8.out⟩⟩
            simp only [if_neg (show ¬ q = k * 10 by omega), if_neg (show ¬ q = k * 10 + 1 by omega), if_neg (show ¬ q = k * 10 + 2 by omega), if_neg (show ¬ q = k * 10 + 3 by omega), if_neg (show ¬ q = k * 10 + 4 by omega), if_neg (show ¬ q = k * 10 + 5 by omega), if_neg (show ¬ q = k * 10 + 6 by omega), if_neg (show ¬ q = k * 10 + 7 by omega), if_neg (show ¬ q = k * 10 + 9 by omega)]
            exact HHV.out q (by omega)
          case measure => have hkl := HX.out.2.2.2; simp [intOf]; omega
    · have hk1 : ¬ (k : Int) < l.length := by omega
      clear hlt hk hb
      go_wp2_with fail
      go_end0
      exact ⟨rfl, HV.out.2.drop.drop⟩
end Go.Proofs.YtmgnekjhlfghaaaGreat

/-
  The document's state: one change (one): a submission.
-/
namespace Go.Proofs.YtmgnekjhlfghaaaGreat
open Go.RowKit
set_option linter.unusedVariables false
set_option linter.unusedSimpArgs false

section
variable {W : Base} {w : World} {R : List Thing}
set_option maxHeartbeats 400000 in
set_option maxRecDepth 100000 in
theorem st_tone_submit_full (H : St W w R) (i : Nat) {X : Nat} {v : SV} (hi : R[i]? = some (XsT X v)) (hv : v.wf) (c : CV) (t : TS) (ht : In w 1 t.a c.texts.length t.c (sL.at_ c.texts)) (hc : c.check = 0) (hk : c.kind = 2) (hj : c.job = (v.progs.length : Int) + 1) (he : ¬ v.q.submit.2.1 = 0) :
    Calls Tryz.prog 29 #[.pointer (some ⟨X, 0, none⟩), .agg (c.f t).toArray] w (XDoTo W R i X (v.submit c.job c.prog)) := by
  have hno : v.submit c.job c.prog = none := by unfold SV.submit; rw [if_neg (fun h => h hj), if_pos he]
  rw [hno]
  clear hno
  obtain ⟨r1, r2, r3, hr⟩ : ∃ r1 r2 r3, v.q.submit = (r1, r2, r3) := ⟨_, _, _, rfl⟩
  rw [hr] at he
  (try rw [hr])
  have hn8 := hv.q.n
  have hnp := hv.np
  have hnl := hv.nl
  rw [hnp] at hj
  have HR := hid (And.intro hr (And.intro hn8 (And.intro hnp (And.intro hnl (And.intro hj he)))))
  clear hv hr hnp hnl hj he hn8
  have hil := lt_of_get hi
  obtain ⟨Q, pv, lv, ll, hll, H1⟩ := H.xs i hi
  obtain ⟨q, res, progs, logs⟩ := v
  obtain ⟨kind, n, job, badge, slot, life, code, bits, prog, texts⟩ := c
  simp only at hll H1 hk
  subst hll hk
  have H2 := H1.alloc (chO ⟨2, n, job, badge, slot, life, code, bits, prog, texts⟩ t)
  have HT := rcheck_walk (w.alloc (chO ⟨2, n, job, badge, slot, life, code, bits, prog, texts⟩ t)) ⟨2, n, job, badge, slot, life, code, bits, prog, texts⟩ t (ht.fr0 ((Fr.refl _ _).alloc _))
  rw [hc] at HT
  have HT := hid HT
  have H2 := hid H2
  have HL := hid hil
  clear H hi ht H1 hil hc
  go_enter Tryz.func29, Tryz.ntmps29
  unfold CV.f at HT ⊢
  go_wp2_with fail
  refine HT.out.mono ?_
  rintro e w1 ⟨rfl, hF⟩
  have H3 := H2.out.same hF
  have bX := H3.blk ((R.set i NilT).length + 0) (by rw [List.append_assoc, get_behind]; rfl)
  have bC := H3.blk ((R.set i NilT ++ xsL X Q q res pv progs lv ll).length + 0) (by rw [get_behind]; rfl)
  have x0 := cell_blk (i := 0) bX rfl
  have x1 := cell_blk (i := 1) bX rfl
  have hlX := lt_of_block bX
  have k0 := cell_blk (i := 0) bC rfl
  have hlC := lt_of_block bC
  clear hF HT H2
  have k2 := cell_blk (i := 2) bC rfl
  obtain ⟨qa, qc, hX⟩ := H3.xq ((R.set i NilT).length + 1) (X := Q) (q := q) (by rw [List.append_assoc, get_behind]; rfl)
  have q1 := hX.c1
  have hlQ := lt_of_block hX.blk
  have hm8 : q.rows.length ≤ 8 := HR.out.2.1
  obtain ⟨pa, pc, rfl⟩ := H3.roShape ((R.set i NilT).length + 2) (by rw [List.append_assoc, get_behind]; rfl)
  obtain ⟨la, lc, rfl⟩ := H3.roShape ((R.set i NilT).length + 3) (by rw [List.append_assoc, get_behind]; rfl)
  have hE := hid (fun nq => st_xsubmit (H3.drewN nq) ((R.set i NilT).length + 1) (X := Q) (q := q) (by rw [List.append_assoc, get_behind]; rfl) hm8)
  have hr : q.submit = (r1, r2, r3) := HR.out.1
  rw [hr] at hE
  have hj : job = (q.rows.length : Int) + 1 := HR.out.2.2.2.2.1
  have HM := hid hm8
  have hw1 : IntKind.i64.wrap ((q.rows.length : Int) + 1) = (q.rows.length : Int) + 1 := IntWalk.i64_in _ (by omega)
  obtain ⟨m, hm⟩ : ∃ m : Nat, q.rows.length = m := ⟨_, rfl⟩
  rw [hm] at q1 hj hw1
  have hj1 : (job == (m : Int) + 1) = true := by rw [beq_iff_eq]; exact hj
  have hj2 : (job != (m : Int) + 1) = false := by simp [bne, hj1]
  have HH := hid H3
  have HMM := hid hm
  clear H3 bX bC hX hj hr hm8 hm
  have he1 : (r2 == 0) = false := by rw [beq_eq_false_iff_ne]; exact HR.out.2.2.2.2.2
  have he2 : (r2 != 0) = true := by simp [bne, he1]
  go_wp2_with fail
  go_quiet (fail)
  go_wp2_with fail
  refine (hE.out _).mono ?_
  rintro e w2 ⟨rfl, H4⟩
  rw [xs_setQ] at H4
  have H4 := hid H4
  go_wp2_with fail
  go_ret
  exact XDoTo.no rfl (St.xsBack HL.out H4.out.drop)
theorem sAt {α : Type} (L : Lay α) (l : List α) : (List.range (l.length * L.sz)).map (L.at_ l) = L.cells l := L.range l
set_option maxHeartbeats 1000000 in
set_option maxRecDepth 100000 in
theorem st_tone_submit_ok (H : St W w R) (i : Nat) {X : Nat} {v : SV} (hi : R[i]? = some (XsT X v)) (hv : v.wf) (c : CV) (t : TS) (ht : In w 1 t.a c.texts.length t.c (sL.at_ c.texts)) (hc : c.check = 0) (hk : c.kind = 2) (hj : c.job = (v.progs.length : Int) + 1) (he : v.q.submit.2.1 = 0) :
    Calls Tryz.prog 29 #[.pointer (some ⟨X, 0, none⟩), .agg (c.f t).toArray] w (XDoTo W R i X (v.submit c.job c.prog)) := by
  have hyes : v.submit c.job c.prog = some ⟨v.q.submit.2.2, v.res, v.progs ++ [c.prog], v.logs ++ [[]]⟩ := by unfold SV.submit; rw [if_neg (fun h => h hj), if_neg (fun h => h he)]
  rw [hyes]
  clear hyes
  obtain ⟨i0, hi0, hz0, hz1, hz2⟩ := info_parts info_gs
  obtain ⟨i1, hi1, hy0, hy1, hy2⟩ := info_parts info_gt
  have HI := hid (And.intro hi0 (And.intro hz0 (And.intro hz1 hz2)))
  have HJ := hid (And.intro hi1 (And.intro hy0 (And.intro hy1 hy2)))
  clear hi0 hz0 hz1 hz2 hi1 hy0 hy1 hy2
  obtain ⟨r1, r2, r3, hr⟩ : ∃ r1 r2 r3, v.q.submit = (r1, r2, r3) := ⟨_, _, _, rfl⟩
  rw [hr] at he
  (try rw [hr])
  have hn8 := hv.q.n
  have hnp := hv.np
  have hnl := hv.nl
  rw [hnp] at hj
  have HR := hid (And.intro hr (And.intro hn8 (And.intro hnp (And.intro hnl (And.intro hj he)))))
  clear hv hr hnp hnl hj he hn8
  have hil := lt_of_get hi
  obtain ⟨Q, pv, lv, ll, hll, H1⟩ := H.xs i hi
  obtain ⟨q, res, progs, logs⟩ := v
  obtain ⟨kind, n, job, badge, slot, life, code, bits, prog, texts⟩ := c
  simp only at hll H1 hk
  subst hll hk
  have H2 := H1.alloc (chO ⟨2, n, job, badge, slot, life, code, bits, prog, texts⟩ t)
  have HT := rcheck_walk (w.alloc (chO ⟨2, n, job, badge, slot, life, code, bits, prog, texts⟩ t)) ⟨2, n, job, badge, slot, life, code, bits, prog, texts⟩ t (ht.fr0 ((Fr.refl _ _).alloc _))
  rw [hc] at HT
  have HT := hid HT
  have H2 := hid H2
  have HL := hid hil
  clear H hi ht H1 hil hc
  go_enter Tryz.func29, Tryz.ntmps29
  unfold CV.f at HT ⊢
  go_wp2_with fail
  refine HT.out.mono ?_
  rintro e w1 ⟨rfl, hF⟩
  have H3 := H2.out.same hF
  have bX := H3.blk ((R.set i NilT).length + 0) (by rw [List.append_assoc, get_behind]; rfl)
  have bC := H3.blk ((R.set i NilT ++ xsL X Q q res pv progs lv ll).length + 0) (by rw [get_behind]; rfl)
  have x0 := cell_blk (i := 0) bX rfl
  have x1 := cell_blk (i := 1) bX rfl
  have hlX := lt_of_block bX
  have k0 := cell_blk (i := 0) bC rfl
  have hlC := lt_of_block bC
  clear hF HT H2
  have k2 := cell_blk (i := 2) bC rfl
  obtain ⟨qa, qc, hX⟩ := H3.xq ((R.set i NilT).length + 1) (X := Q) (q := q) (by rw [List.append_assoc, get_behind]; rfl)
  have q1 := hX.c1
  have hlQ := lt_of_block hX.blk
  have hm8 : q.rows.length ≤ 8 := HR.out.2.1
  obtain ⟨pa, pc, rfl⟩ := H3.roShape ((R.set i NilT).length + 2) (by rw [List.append_assoc, get_behind]; rfl)
  obtain ⟨la, lc, rfl⟩ := H3.roShape ((R.set i NilT).length + 3) (by rw [List.append_assoc, get_behind]; rfl)
  have hE := hid (fun nq => st_xsubmit (H3.drewN nq) ((R.set i NilT).length + 1) (X := Q) (q := q) (by rw [List.append_assoc, get_behind]; rfl) hm8)
  have hr : q.submit = (r1, r2, r3) := HR.out.1
  rw [hr] at hE
  have hj : job = (q.rows.length : Int) + 1 := HR.out.2.2.2.2.1
  have HM := hid hm8
  have hw1 : IntKind.i64.wrap ((q.rows.length : Int) + 1) = (q.rows.length : Int) + 1 := IntWalk.i64_in _ (by omega)
  obtain ⟨m, hm⟩ : ∃ m : Nat, q.rows.length = m := ⟨_, rfl⟩
  rw [hm] at q1 hj hw1
  have hj1 : (job == (m : Int) + 1) = true := by rw [beq_iff_eq]; exact hj
  have hj2 : (job != (m : Int) + 1) = false := by simp [bne, hj1]
  have HH := hid H3
  have HMM := hid hm
  clear H3 bX bC hX hj hr hm8 hm
  obtain rfl : r2 = 0 := HR.out.2.2.2.2.2
  have HB := hid (show progs.length * 16 ≤ 140737488355328 ∧ progs.length + 1 ≤ maxLen ∧ (progs.length + 1) * 16 ≤ 140737488355328 from by
    have h1 : progs.length = q.rows.length := HR.out.2.2.1
    have h2 := HM.out
    unfold maxLen; omega)
  have HB2 := hid (show ll.length * 24 ≤ 140737488355328 ∧ ll.length + 1 ≤ maxLen ∧ (ll.length + 1) * 24 ≤ 140737488355328 from by
    have h1 : (ll.map (·.1)).length = q.rows.length := HR.out.2.2.2.1
    rw [List.length_map] at h1
    have h2 := HM.out
    unfold maxLen; omega)
  go_wp2_with fail
  go_quiet (fail)
  go_wp2_with fail
  refine (hE.out _).mono ?_
  rintro e w2 ⟨rfl, H4⟩
  rw [xs_setQ] at H4
  have bX := H4.blk ((R.set i NilT).length + 0) (by rw [List.append_assoc, get_behind]; rfl)
  have bC := H4.blk ((R.set i NilT ++ xsL X Q r3 res (.slice pa progs.length pc) progs (.slice la ll.length lc) ll).length + 0) (by rw [get_behind]; rfl)
  have zX := lt_of_block bX
  have zC := lt_of_block bC
  have H4 := hid H4
  have HS := hid (show ∀ (wx : World) (T : List Thing), St W wx ((R.set i NilT ++ xsL X Q r3 res (.slice pa progs.length pc) progs (.slice la ll.length lc) ll) ++ (BlkT w.heap.size (chO ⟨2, n, job, badge, slot, life, code, bits, prog, texts⟩ t) :: T)) → wx.cell? ⟨X, 2, none⟩ = some (.slice pa progs.length pc) ∧ wx.cell? ⟨w.heap.size, 8, none⟩ = some (.string prog) from fun wx T h => ⟨cell_blk (i := 2) (h.blk ((R.set i NilT).length + 0) (by rw [List.append_assoc, get_behind]; rfl)) rfl, cell_blk (i := 8) (h.blk ((R.set i NilT ++ xsL X Q r3 res (.slice pa progs.length pc) progs (.slice la ll.length lc) ll).length + 0) (by rw [get_behind]; rfl)) rfl⟩)
  clear bX bC x0 x1 k0 k2 q1 hlQ hlX hlC hw1 hj1 hj2 hE HH
  go_upto_region 16 with (fail)
  go_cut [0] (fun s0 wx => s0 = .pointer (some ⟨X, 0, none⟩) ∧ ∃ a c, Hid (St W wx (R.set i NilT ++ xsL X Q r3 res (.slice a (progs.length + 1) c) (progs ++ [prog]) (.slice la ll.length lc) ll)))
  case first =>
    refine wp_region_U (S := fun wx : World => wx.cell? ⟨X, 2, none⟩ = some (.slice pa progs.length pc) ∧ wx.cell? ⟨w.heap.size, 8, none⟩ = some (.string prog)) 13 (by kernel_rfl) (HS.out _ [] H4.out.drew) (fun hHeld => ?_)
    refine takeU (i := 0) (d := 70) (v := ?_) rfl rfl (by kernel_rfl) (by kernel_rfl) (by kernel_rfl) (by kernel_rfl) (by kernel_rfl) (fun _ _ _ h => h) (Or.inl ⟨by rfl, ?_⟩) hHeld ?_
    rotate_left
    · intro wq hSw; (try dsimp only at hSw); go_simp; all_goals (with_reducible rfl)
    simp only [Act.put, List.setIfInBounds_toArray, List.set_cons_zero, List.set_cons_succ]
    refine takeU (i := 2) (d := 72) (v := ?_) rfl rfl (by kernel_rfl) (by kernel_rfl) (by kernel_rfl) (by kernel_rfl) (by kernel_rfl) (fun _ _ _ h => h) (Or.inl ⟨by rfl, ?_⟩) hHeld ?_
    rotate_left
    · intro wq hSw; (try dsimp only at hSw); go_simp; all_goals (with_reducible rfl)
    simp only [Act.put, List.setIfInBounds_toArray, List.set_cons_zero, List.set_cons_succ]
    refine takeU (i := 3) (d := 73) (v := ?_) rfl rfl (by kernel_rfl) (by kernel_rfl) (by kernel_rfl) (by kernel_rfl) (by kernel_rfl) (fun _ _ _ h => h) (Or.inl ⟨by rfl, ?_⟩) hHeld ?_
    rotate_left
    · intro wq hSw; (try dsimp only at hSw); go_simp; all_goals (with_reducible rfl)
    simp only [Act.put, List.setIfInBounds_toArray, List.set_cons_zero, List.set_cons_succ]
    refine takeU (i := 4) (d := 74) (v := ?_) rfl rfl (by kernel_rfl) (by kernel_rfl) (by kernel_rfl) (by kernel_rfl) (by kernel_rfl) (fun _ _ _ h => h) (Or.inl ⟨by rfl, ?_⟩) hHeld ?_
    rotate_left
    · intro wq hSw; (try dsimp only at hSw); go_simp; all_goals (with_reducible rfl)
    simp only [Act.put, List.setIfInBounds_toArray, List.set_cons_zero, List.set_cons_succ]
    refine takeU (i := 5) (d := 75) (v := ?_) rfl rfl (by kernel_rfl) (by kernel_rfl) (by kernel_rfl) (by kernel_rfl) (by kernel_rfl) (fun _ _ _ h => h) (Or.inl ⟨by rfl, ?_⟩) hHeld ?_
    rotate_left
    · intro wq hSw; (try dsimp only at hSw); go_simp; all_goals (with_reducible rfl)
    simp only [Act.put, List.setIfInBounds_toArray, List.set_cons_zero, List.set_cons_succ]
    refine takeU (i := 7) (d := 77) (v := ?_) rfl rfl (by kernel_rfl) (by kernel_rfl) (by kernel_rfl) (by kernel_rfl) (by kernel_rfl) (fun _ _ _ h => h) (Or.inl ⟨by rfl, ?_⟩) hHeld ?_
    rotate_left
    · intro wq hSw; (try dsimp only at hSw); go_simp; all_goals (with_reducible rfl)
    simp only [Act.put, List.setIfInBounds_toArray, List.set_cons_zero, List.set_cons_succ]
    refine takeU (i := 8) (d := 78) (v := ?_) rfl rfl (by kernel_rfl) (by kernel_rfl) (by kernel_rfl) (by kernel_rfl) (by kernel_rfl) (fun _ _ _ h => h) (Or.inl ⟨by rfl, ?_⟩) hHeld ?_
    rotate_left
    · intro wq hSw; (try dsimp only at hSw); go_simp; all_goals (with_reducible rfl)
    simp only [Act.put, List.setIfInBounds_toArray, List.set_cons_zero, List.set_cons_succ]
    refine wpAnyU_ready (rs := [1, 9]) (by kernel_rfl) (by simp) ?_
    refine AllReadyU.cons rfl (fun K hK => ?_) (AllReadyU.cons rfl (fun K hK => ?_) AllReadyU.nil)
    · go_simp
      have H5 := hid (show St W (w2.drew.alloc (.cells #[] 9)) ((R.set i NilT ++ xsL X Q r3 res (.slice pa progs.length pc) progs (.slice la ll.length lc) ll) ++ [BlkT w.heap.size (chO ⟨2, n, job, badge, slot, life, code, bits, prog, texts⟩ t), RowT 9 1 (.slice (some ⟨w2.heap.size, 0, none⟩) 0 0) 0 []]) from by have h := H4.out.drew.newRow 9 1; rw [List.append_assoc] at h; exact h)
      refine hK.out _ _ (fun _ => HS.out _ _ H5.out) (fun hHeld => ?_)
      clear hK K
      refine wpAnyU_ready (rs := [6, 9]) (by kernel_rfl) (by simp) ?_
      refine AllReadyU.cons rfl (fun K hK => ?_) (AllReadyU.cons rfl (fun K hK => ?_) AllReadyU.nil)
      ·
        refine stepCopied H5.out ((R.set i NilT ++ xsL X Q r3 res (.slice pa progs.length pc) progs (.slice la ll.length lc) ll).length + 1) rfl (.tmp 71) (.tmp 75) 41 rfl 9 i0 (.string ByteArray.empty) 1 16 Tryz.underlying41 HI.out.1 HI.out.2.1 HI.out.2.2.1 HI.out.2.2.2 rfl (by decide) w2.heap.size (by rw [get_behind]; rfl) rfl pa progs.length pc (sL.at_ progs) rfl (H5.out.roLay sL ((R.set i NilT).length + 2) (by rw [List.append_assoc, get_behind]; rfl)) (fun j _ => sL.at_one _ j) HB.out.1 ?_
        intro g cap w3 H6
        rw [set_behind] at H6
        have H6 : St W w3 ((R.set i NilT ++ xsL X Q r3 res (.slice pa progs.length pc) progs (.slice la ll.length lc) ll) ++ [BlkT w.heap.size (chO ⟨2, n, job, badge, slot, life, code, bits, prog, texts⟩ t), RowT 9 1 (.slice (some ⟨g, 0, none⟩) progs.length cap) progs.length (sL.cells progs)]) := by
          rw [← sAt sL progs]; exact H6
        have H6 := hid H6
        refine hK.out _ _ (fun _ => HS.out _ _ H6.out) (fun hHeld => ?_)
        clear hK K
        refine wpAnyU_ready (rs := [9]) (by kernel_rfl) (by simp) ?_
        refine AllReadyU.cons rfl (fun K hK => ?_) AllReadyU.nil
        go_simp
        have H7 := hid (show St W (w3.alloc (.cells #[.string prog] 9)) ((R.set i NilT ++ xsL X Q r3 res (.slice pa progs.length pc) progs (.slice la ll.length lc) ll) ++ [BlkT w.heap.size (chO ⟨2, n, job, badge, slot, life, code, bits, prog, texts⟩ t), RowT 9 1 (.slice (some ⟨g, 0, none⟩) progs.length cap) progs.length (sL.cells progs), BlkT w3.heap.size (.cells #[.string prog] 9)]) from by have h := H6.out.alloc (.cells #[.string prog] 9); rw [List.append_assoc] at h; exact h)
        refine hK.out _ _ (fun _ => HS.out _ _ H7.out) (fun hHeld => ?_)
        clear hK K
        refine wpAnyU_ready (rs := [10]) (by kernel_rfl) (by simp) ?_
        refine AllReadyU.cons rfl (fun K hK => ?_) AllReadyU.nil
        refine stepAdded H7.out ((R.set i NilT ++ xsL X Q r3 res (.slice pa progs.length pc) progs (.slice la ll.length lc) ll).length + 1) rfl (.tmp 76) (.tmp 79) 41 rfl 9 i0 (.string ByteArray.empty) 1 16 Tryz.underlying41 HI.out.1 HI.out.2.1 HI.out.2.2.1 HI.out.2.2.2 rfl (by decide) (.slice (some ⟨g, 0, none⟩) progs.length cap) progs.length (sL.cells progs) (by rw [get_behind]; rfl) rfl (some ⟨w3.heap.size, 0, none⟩) 1 1 (fun k => [Value.string prog].getD k undef) rfl (H7.out.blkIn ((R.set i NilT ++ xsL X Q r3 res (.slice pa progs.length pc) progs (.slice la ll.length lc) ll).length + 2) 1 1 rfl (by decide) (by rw [get_behind]; rfl)) (fun j hj => by (obtain rfl : j = 0 := by omega); rfl) HB.out.2.1 HB.out.2.2 ?_
        intro a4 c4 w4 H8
        rw [set_behind, show (List.range (1 * 1)).map (fun k => [Value.string prog].getD k undef) = sL.f prog from rfl, sL.snoc] at H8
        have H8 : St W w4 ((R.set i NilT ++ xsL X Q r3 res (.slice pa progs.length pc) progs (.slice la ll.length lc) ll) ++ (BlkT w.heap.size (chO ⟨2, n, job, badge, slot, life, code, bits, prog, texts⟩ t) :: [RowT 9 1 (.slice a4 (progs.length + 1) c4) (progs.length + 1) (sL.cells (progs ++ [prog])), BlkT w3.heap.size (.cells #[.string prog] 9)])) := H8
        have b4 := H8.blk ((R.set i NilT).length + 0) (by rw [List.append_assoc, get_behind]; rfl)
        have e2 := cell_blk (i := 2) b4 rfl
        have n2 := free_blk (i := 2) b4
        have l4 := lt_of_block b4
        have H8 := hid H8
        refine hK.out _ _ (fun _ => HS.out _ _ H8.out) (fun hHeld => ?_)
        clear hK K b4
        have hHeld := hHeld (by decide)
        refine takeU (i := 11) (d := 81) (v := ?_) rfl rfl (by kernel_rfl) (by kernel_rfl) (by kernel_rfl) (by kernel_rfl) (by kernel_rfl) (fun _ _ _ h => h) (Or.inl ⟨by rfl, ?_⟩) hHeld ?_
        rotate_left
        · intro wq hSw; (try dsimp only at hSw); go_simp; all_goals (with_reducible rfl)
        simp only [Act.put, List.setIfInBounds_toArray, List.set_cons_zero, List.set_cons_succ]
        refine takeU (i := 12) (d := 82) (v := ?_) rfl rfl (by kernel_rfl) (by kernel_rfl) (by kernel_rfl) (by kernel_rfl) (by kernel_rfl) (fun _ _ _ h => h) (Or.inl ⟨by rfl, ?_⟩) hHeld ?_
        rotate_left
        · intro wq hSw; (try dsimp only at hSw); go_simp; all_goals (with_reducible rfl)
        simp only [Act.put, List.setIfInBounds_toArray, List.set_cons_zero, List.set_cons_succ]
        refine wpAnyU_ready (rs := [13]) (by kernel_rfl) (by simp) ?_
        refine AllReadyU.cons rfl (fun K hK => ?_) AllReadyU.nil
        go_simp
        have H9 := hid (St.xsProgs (progs' := progs ++ [prog]) H8.out 1 rfl (by simp))
        refine hK.out _ _ (fun h => absurd rfl h) (fun _ => ?_)
        clear hK K
        refine wpAnyU_done (by kernel_rfl) ?_ _
        clear hHeld e2 n2
        go_wp2_with fail
        go_meet
        exact ⟨rfl, a4, c4, H9⟩
      ·
        go_simp
        have H6 := hid (show St W ((w2.drew.alloc (.cells #[] 9)).alloc (.cells #[.string prog] 9)) ((R.set i NilT ++ xsL X Q r3 res (.slice pa progs.length pc) progs (.slice la ll.length lc) ll) ++ [BlkT w.heap.size (chO ⟨2, n, job, badge, slot, life, code, bits, prog, texts⟩ t), RowT 9 1 (.slice (some ⟨w2.heap.size, 0, none⟩) 0 0) 0 [], BlkT (w2.heap.size + 1) (.cells #[.string prog] 9)]) from by have h := H5.out.allocAt (.cells #[.string prog] 9) (w2.heap.size + 1) (by simp); rw [List.append_assoc] at h; exact h)
        refine hK.out _ _ (fun _ => HS.out _ _ H6.out) (fun hHeld => ?_)
        clear hK K
        refine wpAnyU_ready (rs := [6]) (by kernel_rfl) (by simp) ?_
        refine AllReadyU.cons rfl (fun K hK => ?_) AllReadyU.nil
        refine stepCopied H6.out ((R.set i NilT ++ xsL X Q r3 res (.slice pa progs.length pc) progs (.slice la ll.length lc) ll).length + 1) rfl (.tmp 71) (.tmp 75) 41 rfl 9 i0 (.string ByteArray.empty) 1 16 Tryz.underlying41 HI.out.1 HI.out.2.1 HI.out.2.2.1 HI.out.2.2.2 rfl (by decide) w2.heap.size (by rw [get_behind]; rfl) rfl pa progs.length pc (sL.at_ progs) rfl (H6.out.roLay sL ((R.set i NilT).length + 2) (by rw [List.append_assoc, get_behind]; rfl)) (fun j _ => sL.at_one _ j) HB.out.1 ?_
        intro g cap w3 H7
        rw [set_behind] at H7
        have H7 : St W w3 ((R.set i NilT ++ xsL X Q r3 res (.slice pa progs.length pc) progs (.slice la ll.length lc) ll) ++ [BlkT w.heap.size (chO ⟨2, n, job, badge, slot, life, code, bits, prog, texts⟩ t), RowT 9 1 (.slice (some ⟨g, 0, none⟩) progs.length cap) progs.length (sL.cells progs), BlkT (w2.heap.size + 1) (.cells #[.string prog] 9)]) := by
          rw [← sAt sL progs]; exact H7
        have H7 := hid H7
        refine hK.out _ _ (fun _ => HS.out _ _ H7.out) (fun hHeld => ?_)
        clear hK K
        refine wpAnyU_ready (rs := [10]) (by kernel_rfl) (by simp) ?_
        refine AllReadyU.cons rfl (fun K hK => ?_) AllReadyU.nil
        refine stepAdded H7.out ((R.set i NilT ++ xsL X Q r3 res (.slice pa progs.length pc) progs (.slice la ll.length lc) ll).length + 1) rfl (.tmp 76) (.tmp 79) 41 rfl 9 i0 (.string ByteArray.empty) 1 16 Tryz.underlying41 HI.out.1 HI.out.2.1 HI.out.2.2.1 HI.out.2.2.2 rfl (by decide) (.slice (some ⟨g, 0, none⟩) progs.length cap) progs.length (sL.cells progs) (by rw [get_behind]; rfl) rfl (some ⟨w2.heap.size + 1, 0, none⟩) 1 1 (fun k => [Value.string prog].getD k undef) rfl (H7.out.blkIn ((R.set i NilT ++ xsL X Q r3 res (.slice pa progs.length pc) progs (.slice la ll.length lc) ll).length + 2) 1 1 rfl (by decide) (by rw [get_behind]; rfl)) (fun j hj => by (obtain rfl : j = 0 := by omega); rfl) HB.out.2.1 HB.out.2.2 ?_
        intro a4 c4 w4 H8
        rw [set_behind, show (List.range (1 * 1)).map (fun k => [Value.string prog].getD k undef) = sL.f prog from rfl, sL.snoc] at H8
        have H8 : St W w4 ((R.set i NilT ++ xsL X Q r3 res (.slice pa progs.length pc) progs (.slice la ll.length lc) ll) ++ (BlkT w.heap.size (chO ⟨2, n, job, badge, slot, life, code, bits, prog, texts⟩ t) :: [RowT 9 1 (.slice a4 (progs.length + 1) c4) (progs.length + 1) (sL.cells (progs ++ [prog])), BlkT (w2.heap.size + 1) (.cells #[.string prog] 9)])) := H8
        have b4 := H8.blk ((R.set i NilT).length + 0) (by rw [List.append_assoc, get_behind]; rfl)
        have e2 := cell_blk (i := 2) b4 rfl
        have n2 := free_blk (i := 2) b4
        have l4 := lt_of_block b4
        have H8 := hid H8
        refine hK.out _ _ (fun _ => HS.out _ _ H8.out) (fun hHeld => ?_)
        clear hK K b4
        have hHeld := hHeld (by decide)
        refine takeU (i := 11) (d := 81) (v := ?_) rfl rfl (by kernel_rfl) (by kernel_rfl) (by kernel_rfl) (by kernel_rfl) (by kernel_rfl) (fun _ _ _ h => h) (Or.inl ⟨by rfl, ?_⟩) hHeld ?_
        rotate_left
        · intro wq hSw; (try dsimp only at hSw); go_simp; all_goals (with_reducible rfl)
        simp only [Act.put, List.setIfInBounds_toArray, List.set_cons_zero, List.set_cons_succ]
        refine takeU (i := 12) (d := 82) (v := ?_) rfl rfl (by kernel_rfl) (by kernel_rfl) (by kernel_rfl) (by kernel_rfl) (by kernel_rfl) (fun _ _ _ h => h) (Or.inl ⟨by rfl, ?_⟩) hHeld ?_
        rotate_left
        · intro wq hSw; (try dsimp only at hSw); go_simp; all_goals (with_reducible rfl)
        simp only [Act.put, List.setIfInBounds_toArray, List.set_cons_zero, List.set_cons_succ]
        refine wpAnyU_ready (rs := [13]) (by kernel_rfl) (by simp) ?_
        refine AllReadyU.cons rfl (fun K hK => ?_) AllReadyU.nil
        go_simp
        have H9 := hid (St.xsProgs (progs' := progs ++ [prog]) H8.out 1 rfl (by simp))
        refine hK.out _ _ (fun h => absurd rfl h) (fun _ => ?_)
        clear hK K
        refine wpAnyU_done (by kernel_rfl) ?_ _
        clear hHeld e2 n2
        go_wp2_with fail
        go_meet
        exact ⟨rfl, a4, c4, H9⟩
    ·
      go_simp
      have H5 := hid (show St W (w2.drew.alloc (.cells #[.string prog] 9)) ((R.set i NilT ++ xsL X Q r3 res (.slice pa progs.length pc) progs (.slice la ll.length lc) ll) ++ [BlkT w.heap.size (chO ⟨2, n, job, badge, slot, life, code, bits, prog, texts⟩ t), BlkT w2.heap.size (.cells #[.string prog] 9)]) from by have h := H4.out.drew.alloc (.cells #[.string prog] 9); rw [List.append_assoc] at h; exact h)
      refine hK.out _ _ (fun _ => HS.out _ _ H5.out) (fun hHeld => ?_)
      clear hK K
      refine wpAnyU_ready (rs := [1]) (by kernel_rfl) (by simp) ?_
      refine AllReadyU.cons rfl (fun K hK => ?_) AllReadyU.nil
      go_simp
      have H6 := hid (show St W ((w2.drew.alloc (.cells #[.string prog] 9)).alloc (.cells #[] 9)) ((R.set i NilT ++ xsL X Q r3 res (.slice pa progs.length pc) progs (.slice la ll.length lc) ll) ++ [BlkT w.heap.size (chO ⟨2, n, job, badge, slot, life, code, bits, prog, texts⟩ t), BlkT w2.heap.size (.cells #[.string prog] 9), RowT 9 1 (.slice (some ⟨w2.heap.size + 1, 0, none⟩) 0 0) 0 []]) from by have h := H5.out.newRow 9 1; rw [List.append_assoc, show (w2.drew.alloc (.cells #[.string prog] 9)).heap.size = w2.heap.size + 1 by simp] at h; exact h)
      refine hK.out _ _ (fun _ => HS.out _ _ H6.out) (fun hHeld => ?_)
      clear hK K
      refine wpAnyU_ready (rs := [6]) (by kernel_rfl) (by simp) ?_
      refine AllReadyU.cons rfl (fun K hK => ?_) AllReadyU.nil
      refine stepCopied H6.out ((R.set i NilT ++ xsL X Q r3 res (.slice pa progs.length pc) progs (.slice la ll.length lc) ll).length + 2) rfl (.tmp 71) (.tmp 75) 41 rfl 9 i0 (.string ByteArray.empty) 1 16 Tryz.underlying41 HI.out.1 HI.out.2.1 HI.out.2.2.1 HI.out.2.2.2 rfl (by decide) (w2.heap.size + 1) (by rw [get_behind]; rfl) rfl pa progs.length pc (sL.at_ progs) rfl (H6.out.roLay sL ((R.set i NilT).length + 2) (by rw [List.append_assoc, get_behind]; rfl)) (fun j _ => sL.at_one _ j) HB.out.1 ?_
      intro g cap w3 H7
      rw [set_behind] at H7
      have H7 : St W w3 ((R.set i NilT ++ xsL X Q r3 res (.slice pa progs.length pc) progs (.slice la ll.length lc) ll) ++ [BlkT w.heap.size (chO ⟨2, n, job, badge, slot, life, code, bits, prog, texts⟩ t), BlkT w2.heap.size (.cells #[.string prog] 9), RowT 9 1 (.slice (some ⟨g, 0, none⟩) progs.length cap) progs.length (sL.cells progs)]) := by
        rw [← sAt sL progs]; exact H7
      have H7 := hid H7
      refine hK.out _ _ (fun _ => HS.out _ _ H7.out) (fun hHeld => ?_)
      clear hK K
      refine wpAnyU_ready (rs := [10]) (by kernel_rfl) (by simp) ?_
      refine AllReadyU.cons rfl (fun K hK => ?_) AllReadyU.nil
      refine stepAdded H7.out ((R.set i NilT ++ xsL X Q r3 res (.slice pa progs.length pc) progs (.slice la ll.length lc) ll).length + 2) rfl (.tmp 76) (.tmp 79) 41 rfl 9 i0 (.string ByteArray.empty) 1 16 Tryz.underlying41 HI.out.1 HI.out.2.1 HI.out.2.2.1 HI.out.2.2.2 rfl (by decide) (.slice (some ⟨g, 0, none⟩) progs.length cap) progs.length (sL.cells progs) (by rw [get_behind]; rfl) rfl (some ⟨w2.heap.size, 0, none⟩) 1 1 (fun k => [Value.string prog].getD k undef) rfl (H7.out.blkIn ((R.set i NilT ++ xsL X Q r3 res (.slice pa progs.length pc) progs (.slice la ll.length lc) ll).length + 1) 1 1 rfl (by decide) (by rw [get_behind]; rfl)) (fun j hj => by (obtain rfl : j = 0 := by omega); rfl) HB.out.2.1 HB.out.2.2 ?_
      intro a4 c4 w4 H8
      rw [set_behind, show (List.range (1 * 1)).map (fun k => [Value.string prog].getD k undef) = sL.f prog from rfl, sL.snoc] at H8
      have H8 : St W w4 ((R.set i NilT ++ xsL X Q r3 res (.slice pa progs.length pc) progs (.slice la ll.length lc) ll) ++ (BlkT w.heap.size (chO ⟨2, n, job, badge, slot, life, code, bits, prog, texts⟩ t) :: [BlkT w2.heap.size (.cells #[.string prog] 9), RowT 9 1 (.slice a4 (progs.length + 1) c4) (progs.length + 1) (sL.cells (progs ++ [prog]))])) := H8
      have b4 := H8.blk ((R.set i NilT).length + 0) (by rw [List.append_assoc, get_behind]; rfl)
      have e2 := cell_blk (i := 2) b4 rfl
      have n2 := free_blk (i := 2) b4
      have l4 := lt_of_block b4
      have H8 := hid H8
      refine hK.out _ _ (fun _ => HS.out _ _ H8.out) (fun hHeld => ?_)
      clear hK K b4
      have hHeld := hHeld (by decide)
      refine takeU (i := 11) (d := 81) (v := ?_) rfl rfl (by kernel_rfl) (by kernel_rfl) (by kernel_rfl) (by kernel_rfl) (by kernel_rfl) (fun _ _ _ h => h) (Or.inl ⟨by rfl, ?_⟩) hHeld ?_
      rotate_left
      · intro wq hSw; (try dsimp only at hSw); go_simp; all_goals (with_reducible rfl)
      simp only [Act.put, List.setIfInBounds_toArray, List.set_cons_zero, List.set_cons_succ]
      refine takeU (i := 12) (d := 82) (v := ?_) rfl rfl (by kernel_rfl) (by kernel_rfl) (by kernel_rfl) (by kernel_rfl) (by kernel_rfl) (fun _ _ _ h => h) (Or.inl ⟨by rfl, ?_⟩) hHeld ?_
      rotate_left
      · intro wq hSw; (try dsimp only at hSw); go_simp; all_goals (with_reducible rfl)
      simp only [Act.put, List.setIfInBounds_toArray, List.set_cons_zero, List.set_cons_succ]
      refine wpAnyU_ready (rs := [13]) (by kernel_rfl) (by simp) ?_
      refine AllReadyU.cons rfl (fun K hK => ?_) AllReadyU.nil
      go_simp
      have H9 := hid (St.xsProgs (progs' := progs ++ [prog]) H8.out 2 rfl (by simp))
      refine hK.out _ _ (fun h => absurd rfl h) (fun _ => ?_)
      clear hK K
      refine wpAnyU_done (by kernel_rfl) ?_ _
      clear hHeld e2 n2
      go_wp2_with fail
      go_meet
      exact ⟨rfl, a4, c4, H9⟩
  case rest =>
    obtain ⟨rfl, a, c, HP⟩ := hcut
    have bX := HP.out.blk ((R.set i NilT).length + 0) (by rw [get_behind]; rfl)
    have z3 := cell_blk (i := 3) bX rfl
    have zX3 := lt_of_block bX
    have HA := hid (HP.out.newRow 41 1)
    clear bX zX zC H4 HS
    go_wp2_with (at_builtin; refine wpCopied HA.out ((R.set i NilT ++ xsL X Q r3 res (.slice a (progs.length + 1) c) (progs ++ [prog]) (.slice la ll.length lc) ll).length + 0) rfl (.tmp 84) (.tmp 88) 42 rfl 41 i1 (.slice none 0 0) 1 24 Tryz.underlying42 HJ.out.1 HJ.out.2.1 HJ.out.2.2.1 HJ.out.2.2.2 rfl (by decide) wc.heap.size (by rw [get_behind]; rfl) rfl la ll.length lc (tL.at_ ll) rfl (HA.out.roLay tL ((R.set i NilT).length + 3) (by rw [List.append_assoc, get_behind]; rfl)) (fun j _ => tL.at_one _ j) HB2.out.1 ?_)
    intro g cap w3 H5
    have H5 : St W w3 ((R.set i NilT ++ xsL X Q r3 res (.slice a (progs.length + 1) c) (progs ++ [prog]) (.slice la ll.length lc) ll) ++ [RowT 41 1 (.slice (some ⟨g, 0, none⟩) ll.length cap) ll.length (tL.cells ll)]) := by
      rw [List.append_assoc, ← tL.range ll, show ll.length * tL.sz = ll.length from Nat.mul_one _]; exact H5
    have H6 := hid (show St W ((w3.alloc (.cells #[] 9)).alloc (.cells #[.slice (some ⟨w3.heap.size, 0, none⟩) 0 0] 41)) ((R.set i NilT ++ xsL X Q r3 res (.slice a (progs.length + 1) c) (progs ++ [prog]) (.slice la ll.length lc) ll) ++ [RowT 41 1 (.slice (some ⟨g, 0, none⟩) ll.length cap) ll.length (tL.cells ll), RowT 9 1 (.slice (some ⟨w3.heap.size, 0, none⟩) 0 0) 0 [], BlkT (w3.heap.size + 1) (.cells #[.slice (some ⟨w3.heap.size, 0, none⟩) 0 0] 41)]) from by
      have h := (H5.newRow 9 1).allocAt (.cells #[.slice (some ⟨w3.heap.size, 0, none⟩) 0 0] 41) (w3.heap.size + 1) (by simp)
      rw [List.append_assoc, List.append_assoc] at h; exact h)
    clear H5 z3 zX3 HA
    go_wp2_with (at_builtin; refine wpAdded H6.out ((R.set i NilT ++ xsL X Q r3 res (.slice a (progs.length + 1) c) (progs ++ [prog]) (.slice la ll.length lc) ll).length + 0) rfl (.tmp 89) (.tmp 91) 42 rfl 41 i1 (.slice none 0 0) 1 24 Tryz.underlying42 HJ.out.1 HJ.out.2.1 HJ.out.2.2.1 HJ.out.2.2.2 rfl (by decide) (.slice (some ⟨g, 0, none⟩) ll.length cap) ll.length (tL.cells ll) (by rw [get_behind]; rfl) rfl (some ⟨w3.heap.size + 1, 0, none⟩) 1 1 (fun k => [Value.slice (some ⟨w3.heap.size, 0, none⟩) 0 0].getD k undef) rfl (H6.out.blkIn ((R.set i NilT ++ xsL X Q r3 res (.slice a (progs.length + 1) c) (progs ++ [prog]) (.slice la ll.length lc) ll).length + 2) 1 1 rfl (by decide) (by rw [get_behind]; rfl)) (fun j hj => by (obtain rfl : j = 0 := by omega); rfl) HB2.out.2.1 HB2.out.2.2 ?_)
    intro a5 c5 w5 H7
    rw [← List.append_assoc, show [Value.slice (some ⟨w3.heap.size, 0, none⟩) 0 0] = tL.f (([] : List ByteArray), (⟨some ⟨w3.heap.size, 0, none⟩, 0⟩ : TS)) from rfl, tL.snoc] at H7
    have H7 : St W w5 ((R.set i NilT ++ xsL X Q r3 res (.slice a (progs.length + 1) c) (progs ++ [prog]) (.slice la ll.length lc) ll) ++ [RowT 41 1 (.slice a5 (ll.length + 1) c5) (ll.length + 1) (tL.cells (ll ++ [([], ⟨some ⟨w3.heap.size, 0, none⟩, 0⟩)])), RowT 9 1 (.slice (some ⟨w3.heap.size, 0, none⟩) 0 0) 0 [], BlkT (w3.heap.size + 1) (.cells #[.slice (some ⟨w3.heap.size, 0, none⟩) 0 0] 41)]) := H7
    have H8 := H7.ro ((R.set i NilT ++ xsL X Q r3 res (.slice a (progs.length + 1) c) (progs ++ [prog]) (.slice la ll.length lc) ll).length + 1) (by rw [get_behind]; rfl)
    rw [set_behind] at H8
    have b5 := H7.blk ((R.set i NilT).length + 0) (by rw [List.append_assoc, get_behind]; rfl)
    have e3 := cell_blk (i := 3) b5 rfl
    have n3 := free_blk (i := 3) b5
    have l5 := lt_of_block b5
    have H9 := hid (St.xsLogs (ll' := ll ++ [([], ⟨some ⟨w3.heap.size, 0, none⟩, 0⟩)]) H8 0 rfl (by simp) (fun x hx => by
      rcases List.mem_append.1 hx with h | h
      · exact List.mem_append_left _ (List.mem_map_of_mem h)
      · rw [List.mem_singleton.1 h]; exact List.mem_append_right _ (by simp [lgR, sL, Lay.cells])))
    clear H7 H8 b5
    go_wp2_with fail
    go_ret
    have h10 := St.xsBack HL.out H9.out
    rw [List.map_append, show List.map (fun x : List ByteArray × TS => x.1) [([], (⟨some ⟨w3.heap.size, 0, none⟩, 0⟩ : TS))] = [[]] from rfl] at h10
    exact XDoTo.yes rfl h10
end
end Go.Proofs.YtmgnekjhlfghaaaGreat

/-
  The document's state: one change (one): a grant.
-/
namespace Go.Proofs.YtmgnekjhlfghaaaGreat
open Go.RowKit
set_option linter.unusedVariables false
set_option linter.unusedSimpArgs false

section
variable {W : Base} {w : World} {R : List Thing}
set_option maxHeartbeats 1000000 in
set_option maxRecDepth 100000 in
theorem st_tone_grant (H : St W w R) (i : Nat) {X : Nat} {v : SV} (hi : R[i]? = some (XsT X v)) (hv : v.wf) (c : CV) (t : TS) (ht : In w 1 t.a c.texts.length t.c (sL.at_ c.texts)) (hc : c.check = 0) (hk : c.kind = 3) (hsl : 0 ≤ c.slot ∧ c.slot ≤ 7) :
    Calls Tryz.prog 29 #[.pointer (some ⟨X, 0, none⟩), .agg (c.f t).toArray] w (XDoTo W R i X (v.grant c.job c.badge c.slot c.life)) := by
  obtain ⟨Z, hZ⟩ : ∃ Z, v.grant c.job c.badge c.slot c.life = Z := ⟨_, rfl⟩
  rw [hZ]
  have HZ := hid hZ
  have HV := hid hv
  have hsum : IntKind.i64.wrap (2 + c.slot) = 2 + c.slot := IntWalk.i64_in _ (by omega)
  have HSL := hid hsum
  clear hZ hv hsum hsl
  have hil := lt_of_get hi
  obtain ⟨Q, pv, lv, ll, hll, H1⟩ := H.xs i hi
  obtain ⟨q, res, progs, logs⟩ := v
  obtain ⟨kind, n, job, badge, slot, life, code, bits, prog, texts⟩ := c
  simp only at hll H1 hk
  subst hll hk
  have H2 := H1.alloc (chO ⟨3, n, job, badge, slot, life, code, bits, prog, texts⟩ t)
  have HT := rcheck_walk (w.alloc (chO ⟨3, n, job, badge, slot, life, code, bits, prog, texts⟩ t)) ⟨3, n, job, badge, slot, life, code, bits, prog, texts⟩ t (ht.fr0 ((Fr.refl _ _).alloc _))
  rw [hc] at HT
  have HT := hid HT
  have H2 := hid H2
  have HL := hid hil
  clear H hi ht H1 hil hc
  go_enter Tryz.func29, Tryz.ntmps29
  unfold CV.f at HT ⊢
  go_wp2_with fail
  refine HT.out.mono ?_
  rintro e w1 ⟨rfl, hF⟩
  have H3 := H2.out.same hF
  have bX := H3.blk ((R.set i NilT).length + 0) (by rw [List.append_assoc, get_behind]; rfl)
  have bC := H3.blk ((R.set i NilT ++ xsL X Q q res pv progs lv ll).length + 0) (by rw [get_behind]; rfl)
  have x0 := cell_blk (i := 0) bX rfl
  have x1 := cell_blk (i := 1) bX rfl
  have hlX := lt_of_block bX
  have k0 := cell_blk (i := 0) bC rfl
  have hlC := lt_of_block bC
  clear hF HT H2
  have hsum : IntKind.i64.wrap (2 + slot) = 2 + slot := HSL.out
  have k2 := cell_blk (i := 2) bC rfl
  have k3 := cell_blk (i := 3) bC rfl
  have k4 := cell_blk (i := 4) bC rfl
  have k5 := cell_blk (i := 5) bC rfl
  have HH := hid H3
  clear bX bC
  by_cases hres : res < badge
  · have ho := hid (show none = Z by rw [← HZ.out]; unfold SV.grant; rw [if_pos hres])
    have hd : decide (res < badge) = true := decide_eq_true hres
    clear H3 hres
    go_wp2_with fail
    go_quiet (fail)
    go_wp2_with fail
    go_ret
    exact XDoTo.no ho.out.symm (St.xsBack HL.out (HH.out.drewN _).drop)
  · have hd : decide (res < badge) = false := decide_eq_false hres
    obtain ⟨r2, r3, hr⟩ : ∃ r2 r3, q.grant job badge (2 + slot) life = (r2, r3) := ⟨_, _, rfl⟩
    have hE := hid (st_xgrant H3.drew ((R.set i NilT).length + 1) (X := Q) (q := q) (by rw [List.append_assoc, get_behind]; rfl) HV.out.q job badge (2 + slot) life)
    rw [hr] at hE
    simp only [xs_setQ] at hE
    have HR := hid (And.intro hr hres)
    clear H3 hr hres
    have hN0 : w1.drew.cell? ⟨X, 0, none⟩ = some (.int .i64 res) ∧ w1.drew.cell? ⟨X, 1, none⟩ = some (.pointer (some ⟨Q, 0, none⟩)) ∧ w1.drew.cell? ⟨w.heap.size, 2, none⟩ = some (.int .i64 job) ∧ w1.drew.cell? ⟨w.heap.size, 3, none⟩ = some (.int .i64 badge) ∧ w1.drew.cell? ⟨w.heap.size, 4, none⟩ = some (.int .i64 slot) ∧ w1.drew.cell? ⟨w.heap.size, 5, none⟩ = some (.int .i64 life) := ⟨x0, x1, k2, k3, k4, k5⟩
    have HN0 := hid hN0
    clear hN0
    go_wp2_with fail
    go_region_held3 (fun wx : World => wx.cell? ⟨X, 0, none⟩ = some (.int .i64 res) ∧ wx.cell? ⟨X, 1, none⟩ = some (.pointer (some ⟨Q, 0, none⟩)) ∧ wx.cell? ⟨w.heap.size, 2, none⟩ = some (.int .i64 job) ∧ wx.cell? ⟨w.heap.size, 3, none⟩ = some (.int .i64 badge) ∧ wx.cell? ⟨w.heap.size, 4, none⟩ = some (.int .i64 slot) ∧ wx.cell? ⟨w.heap.size, 5, none⟩ = some (.int .i64 life)) ((first | with_reducible exact hNow | with_reducible exact HN0.out)) (first | (go_at_call 80; refine hE.out.mono ?_; rintro e w2 ⟨rfl, H4⟩; have bX := H4.blk ((R.set i NilT).length + 0) (by rw [List.append_assoc, get_behind]; rfl); have bC := H4.blk ((R.set i NilT ++ xsL X Q r3 res pv progs lv ll).length + 0) (by rw [get_behind]; rfl); have hNow := And.intro (cell_blk (i := 0) (v := .int .i64 res) bX rfl) (And.intro (cell_blk (i := 1) (v := .pointer (some ⟨Q, 0, none⟩)) bX rfl) (And.intro (cell_blk (i := 2) (v := .int .i64 job) bC rfl) (And.intro (cell_blk (i := 3) (v := .int .i64 badge) bC rfl) (And.intro (cell_blk (i := 4) (v := .int .i64 slot) bC rfl) (cell_blk (i := 5) (v := .int .i64 life) bC rfl))))); have H4 := hid H4; clear bX bC))
    by_cases h0 : r2 = 0
    · subst h0
      have hyes := hid (show some (SV.mk r3 res progs ((ll.map (·.1)).set (job - 1).toNat [])) = Z by
        rw [← HZ.out]
        unfold SV.grant
        simp only [HR.out.1]
        rw [if_neg (by have := HR.out.2; omega), if_neg (fun h => h rfl)])
      have hj : 1 ≤ job ∧ job ≤ q.rows.length := by
        have h1 : (q.grant job badge (2 + slot) life).1 = 0 := by rw [HR.out.1]
        unfold QS.grant at h1
        split at h1
        · simp at h1
        · omega
      have hnl : (ll.map (·.1)).length = q.rows.length := HV.out.nl
      have hn8 : q.rows.length ≤ 8 := HV.out.q.n
      rw [List.length_map] at hnl
      obtain ⟨k, rfl⟩ : ∃ k : Nat, job = k + 1 := ⟨(job - 1).toNat, by omega⟩
      obtain ⟨la, lc, rfl⟩ := H4.out.roShape ((R.set i NilT).length + 3) (by rw [List.append_assoc, get_behind]; rfl)
      have HJ := hid (show k < ll.length ∧ ll.length ≤ 8 from by omega)
      have HS := hid (show ∀ (wx : World) (T : List Thing), St W wx ((R.set i NilT ++ xsL X Q r3 res pv progs (.slice la ll.length lc) ll) ++ (BlkT w.heap.size (chO ⟨3, n, (k : Int) + 1, badge, slot, life, code, bits, prog, texts⟩ t) :: T)) → wx.cell? ⟨X, 3, none⟩ = some (.slice la ll.length lc) ∧ wx.cell? ⟨w.heap.size, 2, none⟩ = some (.int .i64 ((k : Int) + 1)) from fun wx T h => ⟨cell_blk (i := 3) (h.blk ((R.set i NilT).length + 0) (by rw [List.append_assoc, get_behind]; rfl)) rfl, cell_blk (i := 2) (h.blk ((R.set i NilT ++ xsL X Q r3 res pv progs (.slice la ll.length lc) ll).length + 0) (by rw [get_behind]; rfl)) rfl⟩)
      have H4 := hid (show St W w2 ((R.set i NilT ++ xsL X Q r3 res pv progs (.slice la ll.length lc) ll) ++ [BlkT w.heap.size (chO ⟨3, n, (k : Int) + 1, badge, slot, life, code, bits, prog, texts⟩ t)]) from H4.out)
      clear hj hnl hn8 hE hNow x0 x1 k2 k3 k4 k5 k0 hd hsum HH
      have zX := lt_of_block (H4.out.blk ((R.set i NilT).length + 0) (by rw [List.append_assoc, get_behind]; rfl))
      have zC := lt_of_block (H4.out.blk ((R.set i NilT ++ xsL X Q r3 res pv progs (.slice la ll.length lc) ll).length + 0) (by rw [get_behind]; rfl))
      go_wp2_with fail
      refine wp_region_U (S := fun wx : World => wx.cell? ⟨X, 3, none⟩ = some (.slice la ll.length lc) ∧ wx.cell? ⟨w.heap.size, 2, none⟩ = some (.int .i64 ((k : Int) + 1))) 11 (by kernel_rfl) (HS.out _ [] H4.out.drew) (fun hHeld => ?_)
      refine takeU (i := 0) (d := 122) (v := ?_) rfl rfl (by kernel_rfl) (by kernel_rfl) (by kernel_rfl) (by kernel_rfl) (by kernel_rfl) (fun _ _ _ h => h) (Or.inl ⟨by rfl, ?_⟩) hHeld ?_
      rotate_left
      · intro wq hSw; (try dsimp only at hSw); go_simp; all_goals (with_reducible rfl)
      simp only [Act.put, List.setIfInBounds_toArray, List.set_cons_zero, List.set_cons_succ]
      refine takeU (i := 1) (d := 123) (v := ?_) rfl rfl (by kernel_rfl) (by kernel_rfl) (by kernel_rfl) (by kernel_rfl) (by kernel_rfl) (fun _ _ _ h => h) (Or.inl ⟨by rfl, ?_⟩) hHeld ?_
      rotate_left
      · intro wq hSw; (try dsimp only at hSw); go_simp; all_goals (with_reducible rfl)
      simp only [Act.put, List.setIfInBounds_toArray, List.set_cons_zero, List.set_cons_succ]
      refine takeU (i := 2) (d := 124) (v := ?_) rfl rfl (by kernel_rfl) (by kernel_rfl) (by kernel_rfl) (by kernel_rfl) (by kernel_rfl) (fun _ _ _ h => h) (Or.inl ⟨by rfl, ?_⟩) hHeld ?_
      rotate_left
      · intro wq hSw; (try dsimp only at hSw); go_simp; all_goals (with_reducible rfl)
      simp only [Act.put, List.setIfInBounds_toArray, List.set_cons_zero, List.set_cons_succ]
      refine takeU (i := 3) (d := 125) (v := ?_) rfl rfl (by kernel_rfl) (by kernel_rfl) (by kernel_rfl) (by kernel_rfl) (by kernel_rfl) (fun _ _ _ h => h) (Or.inl ⟨by rfl, ?_⟩) hHeld ?_
      rotate_left
      · intro wq hSw; (try dsimp only at hSw); go_simp; all_goals (with_reducible rfl)
      simp only [Act.put, List.setIfInBounds_toArray, List.set_cons_zero, List.set_cons_succ]
      refine takeU (i := 4) (d := 126) (v := ?_) rfl rfl (by kernel_rfl) (by kernel_rfl) (by kernel_rfl) (by kernel_rfl) (by kernel_rfl) (fun _ _ _ h => h) (Or.inl ⟨by rfl, ?_⟩) hHeld ?_
      rotate_left
      · intro wq hSw; (try dsimp only at hSw); go_simp; all_goals (with_reducible rfl)
      simp only [Act.put, List.setIfInBounds_toArray, List.set_cons_zero, List.set_cons_succ]
      refine takeU (i := 5) (d := 127) (v := ?_) rfl rfl (by kernel_rfl) (by kernel_rfl) (by kernel_rfl) (by kernel_rfl) (by kernel_rfl) (fun _ _ _ h => h) (Or.inl ⟨by rfl, ?_⟩) hHeld ?_
      rotate_left
      · intro wq hSw; (try dsimp only at hSw); go_simp; all_goals (with_reducible rfl)
      simp only [Act.put, List.setIfInBounds_toArray, List.set_cons_zero, List.set_cons_succ]
      refine takeU (i := 6) (d := 128) (v := ?_) rfl rfl (by kernel_rfl) (by kernel_rfl) (by kernel_rfl) (by kernel_rfl) (by kernel_rfl) (fun _ _ _ h => h) (Or.inl ⟨by rfl, ?_⟩) hHeld ?_
      rotate_left
      · intro wq hSw; (try dsimp only at hSw); go_simp; all_goals (with_reducible rfl)
      simp only [Act.put, List.setIfInBounds_toArray, List.set_cons_zero, List.set_cons_succ]
      refine wpAnyU_ready (rs := [7]) (by kernel_rfl) (by simp) ?_
      refine AllReadyU.cons rfl (fun K hK => ?_) AllReadyU.nil
      go_simp
      have H5 := hid (show St W (w2.drew.alloc (.cells #[] 9)) ((R.set i NilT ++ xsL X Q r3 res pv progs (.slice la ll.length lc) ll) ++ [BlkT w.heap.size (chO ⟨3, n, (k : Int) + 1, badge, slot, life, code, bits, prog, texts⟩ t), RowT 9 1 (.slice (some ⟨w2.heap.size, 0, none⟩) 0 0) 0 []]) from by have h := H4.out.drew.newRow 9 1; rw [List.append_assoc] at h; exact h)
      refine hK.out _ _ (fun _ => HS.out _ _ H5.out) (fun hHeld => ?_)
      clear hK K
      refine wpAnyU_ready (rs := [8]) (by kernel_rfl) (by simp) ?_
      refine AllReadyU.cons rfl (fun K hK => ?_) AllReadyU.nil
      go_simp
      go_at_call 81
      have HW : Calls Tryz.prog 81 #[.slice la ll.length lc, .int .i64 ((k : Int) + 1), .slice (some ⟨w2.heap.size, 0, none⟩) 0 0] _ _ := st_with H5.out la lc ll (H5.out.roLay tL ((R.set i NilT).length + 3) (by rw [List.append_assoc, get_behind]; rfl)) HJ.out.2 k HJ.out.1 (some ⟨w2.heap.size, 0, none⟩) 0 []
      refine HW.mono ?_
      rintro e w3 ⟨g, cap, rfl, H6⟩
      clear HW
      rw [List.append_assoc] at H6
      have H6 : St W w3 ((R.set i NilT ++ xsL X Q r3 res pv progs (.slice la ll.length lc) ll) ++ [BlkT w.heap.size (chO ⟨3, n, (k : Int) + 1, badge, slot, life, code, bits, prog, texts⟩ t), RowT 9 1 (.slice (some ⟨w2.heap.size, 0, none⟩) 0 0) 0 [], RowT 41 1 (.slice (some ⟨g, 0, none⟩) ll.length cap) ll.length (tL.cells (ll.set k ([], ⟨some ⟨w2.heap.size, 0, none⟩, 0⟩)))]) := H6
      have H7 := H6.ro ((R.set i NilT ++ xsL X Q r3 res pv progs (.slice la ll.length lc) ll).length + 1) (by rw [get_behind]; rfl)
      rw [set_behind] at H7
      have b4 := H6.blk ((R.set i NilT).length + 0) (by rw [List.append_assoc, get_behind]; rfl)
      have e3 := cell_blk (i := 3) b4 rfl
      have n3 := free_blk (i := 3) b4
      have l4 := lt_of_block b4
      have H6 := hid H6
      have H7 := hid H7
      refine hK.out _ _ (fun _ => HS.out _ _ H6.out) (fun hHeld => ?_)
      clear hK K b4
      have hHeld := hHeld (by decide)
      refine takeU (i := 9) (d := 131) (v := ?_) rfl rfl (by kernel_rfl) (by kernel_rfl) (by kernel_rfl) (by kernel_rfl) (by kernel_rfl) (fun _ _ _ h => h) (Or.inl ⟨by rfl, ?_⟩) hHeld ?_
      rotate_left
      · intro wq hSw; (try dsimp only at hSw); go_simp; all_goals (with_reducible rfl)
      simp only [Act.put, List.setIfInBounds_toArray, List.set_cons_zero, List.set_cons_succ]
      refine takeU (i := 10) (d := 132) (v := ?_) rfl rfl (by kernel_rfl) (by kernel_rfl) (by kernel_rfl) (by kernel_rfl) (by kernel_rfl) (fun _ _ _ h => h) (Or.inl ⟨by rfl, ?_⟩) hHeld ?_
      rotate_left
      · intro wq hSw; (try dsimp only at hSw); go_simp; all_goals (with_reducible rfl)
      simp only [Act.put, List.setIfInBounds_toArray, List.set_cons_zero, List.set_cons_succ]
      refine wpAnyU_ready (rs := [11]) (by kernel_rfl) (by simp) ?_
      refine AllReadyU.cons rfl (fun K hK => ?_) AllReadyU.nil
      go_simp
      have H9 := hid (St.xsLogs (ll' := ll.set k ([], ⟨some ⟨w2.heap.size, 0, none⟩, 0⟩)) H7.out 2 rfl (by simp) (fun x hx => by
        rcases List.mem_or_eq_of_mem_set hx with h | h
        · exact List.mem_append_left _ (List.mem_map_of_mem h)
        · rw [h]; exact List.mem_append_right _ (by simp [lgR, sL, Lay.cells])))
      refine hK.out _ _ (fun h => absurd rfl h) (fun _ => ?_)
      clear hK K
      refine wpAnyU_done (by kernel_rfl) ?_ _
      clear hHeld e3 n3
      go_wp2_with fail
      go_ret
      have h10 := St.xsBack HL.out H9.out
      rw [List.map_set] at h10
      refine XDoTo.yes (hyes.out.symm.trans ?_) h10
      rw [show ((k : Int) + 1 - 1).toNat = k by omega]
    · have ho := hid (show none = Z by
        rw [← HZ.out]
        unfold SV.grant
        simp only [HR.out.1]
        rw [if_neg (by have := HR.out.2; omega), if_pos h0])
      have h1 : (r2 == 0) = false := by rw [beq_eq_false_iff_ne]; exact h0
      have h2 : (r2 != 0) = true := by simp [bne, h1]
      clear h0
      go_wp2_with fail
      go_ret
      exact XDoTo.no ho.out.symm (St.xsBack HL.out H4.out.drop)
end
end Go.Proofs.YtmgnekjhlfghaaaGreat

/-
  The document's state: one change (one): texts for a log.
-/
namespace Go.Proofs.YtmgnekjhlfghaaaGreat
open Go.RowKit
set_option linter.unusedVariables false
set_option linter.unusedSimpArgs false

abbrev rwO (x : QR) : Obj := .cells #[.int .i64 x.job, .int .i64 x.st, .int .i64 x.at_, .int .i64 x.ba, .int .i64 x.node, .int .i64 x.life, .int .i64 x.code, .int .u64 x.bits] 51
section
variable {W : Base} {w : World} {R : List Thing}
theorem St.blk8 {T rest : List Thing} {b : Nat} {u0 u1 u2 u3 u4 u5 u6 u7 : Value} {t : TypeId} (v0 v1 v2 v3 v4 v5 v6 v7 : Value) (H : St W w (T ++ (BlkT b (.cells #[u0, u1, u2, u3, u4, u5, u6, u7] t) :: rest))) :
    St W ((((((((w.setCell ⟨b, 0, none⟩ v0).setCell ⟨b, 1, none⟩ v1).setCell ⟨b, 2, none⟩ v2).setCell ⟨b, 3, none⟩ v3).setCell ⟨b, 4, none⟩ v4).setCell ⟨b, 5, none⟩ v5).setCell ⟨b, 6, none⟩ v6).setCell ⟨b, 7, none⟩ v7) (T ++ (BlkT b (.cells #[v0, v1, v2, v3, v4, v5, v6, v7] t) :: rest)) := by
  have e : ∀ A B : Thing, (T ++ (A :: rest)).set T.length B = T ++ (B :: rest) := fun A B => by simp
  have g : ∀ A : Thing, (T ++ (A :: rest))[T.length]? = some A := fun A => by simp
  have h1 := H.setBlk T.length (g _) 0 v0
  simp only [e, List.setIfInBounds_toArray, List.set_cons_zero, List.set_cons_succ] at h1
  have h2 := h1.setBlk T.length (g _) 1 v1
  simp only [e, List.setIfInBounds_toArray, List.set_cons_zero, List.set_cons_succ] at h2
  have h3 := h2.setBlk T.length (g _) 2 v2
  simp only [e, List.setIfInBounds_toArray, List.set_cons_zero, List.set_cons_succ] at h3
  have h4 := h3.setBlk T.length (g _) 3 v3
  simp only [e, List.setIfInBounds_toArray, List.set_cons_zero, List.set_cons_succ] at h4
  have h5 := h4.setBlk T.length (g _) 4 v4
  simp only [e, List.setIfInBounds_toArray, List.set_cons_zero, List.set_cons_succ] at h5
  have h6 := h5.setBlk T.length (g _) 5 v5
  simp only [e, List.setIfInBounds_toArray, List.set_cons_zero, List.set_cons_succ] at h6
  have h7 := h6.setBlk T.length (g _) 6 v6
  simp only [e, List.setIfInBounds_toArray, List.set_cons_zero, List.set_cons_succ] at h7
  have h8 := h7.setBlk T.length (g _) 7 v7
  simp only [e, List.setIfInBounds_toArray, List.set_cons_zero, List.set_cons_succ] at h8
  exact h8
theorem xs_getL {X Q : Nat} {q : QS} {res : Int} {pv lv : Value} {progs : List ByteArray} {ll : List (List ByteArray × TS)} {k : Nat} {x : List ByteArray × TS} {T : List Thing} (h : ll[k]? = some x) : ((R ++ xsL X Q q res pv progs lv ll) ++ T)[R.length + (4 + k)]? = some (lgR x) := by
  rw [List.append_assoc, get_behind, List.getElem?_append_left (by have := lt_of_get' h; simp [xsL]; omega)]
  show ([BlkT X _, XqT Q q, _, _] ++ ll.map lgR)[4 + k]? = _
  rw [List.getElem?_append_right (by simp), show 4 + k - [BlkT X (xO X Q res pv lv), XqT Q q, RoT 9 1 pv progs.length (sL.cells progs), RoT 41 1 lv ll.length (tL.cells ll)].length = k by simp, List.getElem?_map, h]; rfl
where
  lt_of_get' {ll : List (List ByteArray × TS)} {k : Nat} {x : List ByteArray × TS} (h : ll[k]? = some x) : k < ll.length := (List.getElem?_eq_some_iff.1 h).1
set_option maxHeartbeats 1000000 in
set_option maxRecDepth 100000 in
theorem st_tone_log (H : St W w R) (i : Nat) {X : Nat} {v : SV} (hi : R[i]? = some (XsT X v)) (hv : v.wf) (c : CV) (t : TS) (ht : In w 1 t.a c.texts.length t.c (sL.at_ c.texts))
    (hT : ∀ (wx : World) (T : List Thing), St W wx (R.set i NilT ++ T) → In wx 1 t.a c.texts.length t.c (sL.at_ c.texts)) (hc : c.check = 0) (hk : c.kind = 4) (ht1 : 1 ≤ c.texts.length) (ht8 : c.texts.length ≤ 8) :
    Calls Tryz.prog 29 #[.pointer (some ⟨X, 0, none⟩), .agg (c.f t).toArray] w (XDoTo W R i X (v.log c.badge c.texts)) := by
  obtain ⟨Z, hZ⟩ : ∃ Z, v.log c.badge c.texts = Z := ⟨_, rfl⟩
  rw [hZ]
  have HZ := hid hZ
  have HV := hid hv
  have HTT := hid hT
  have HT8 := hid (And.intro ht1 ht8)
  obtain ⟨i0, hi0, hz0, hz1, hz2⟩ := info_parts info_gs
  have HI := hid (And.intro hi0 (And.intro hz0 (And.intro hz1 hz2)))
  clear hi0 hz0 hz1 hz2 hZ hv hT ht1 ht8
  have hil := lt_of_get hi
  obtain ⟨Q, pv, lv, ll, hll, H1⟩ := H.xs i hi
  obtain ⟨q, res, progs, logs⟩ := v
  obtain ⟨kind, n, job, badge, slot, life, code, bits, prog, texts⟩ := c
  simp only at hll H1 hk
  subst hll hk
  have H2 := H1.alloc (chO ⟨4, n, job, badge, slot, life, code, bits, prog, texts⟩ t)
  have HT := rcheck_walk (w.alloc (chO ⟨4, n, job, badge, slot, life, code, bits, prog, texts⟩ t)) ⟨4, n, job, badge, slot, life, code, bits, prog, texts⟩ t (ht.fr0 ((Fr.refl _ _).alloc _))
  rw [hc] at HT
  have HT := hid HT
  have H2 := hid H2
  have HL := hid hil
  clear H hi ht H1 hil hc
  go_enter Tryz.func29, Tryz.ntmps29
  unfold CV.f at HT ⊢
  go_wp2_with fail
  refine HT.out.mono ?_
  rintro e w1 ⟨rfl, hF⟩
  have H3 := H2.out.same hF
  have bX := H3.blk ((R.set i NilT).length + 0) (by rw [List.append_assoc, get_behind]; rfl)
  have bC := H3.blk ((R.set i NilT ++ xsL X Q q res pv progs lv ll).length + 0) (by rw [get_behind]; rfl)
  have x0 := cell_blk (i := 0) bX rfl
  have x1 := cell_blk (i := 1) bX rfl
  have hlX := lt_of_block bX
  have k0 := cell_blk (i := 0) bC rfl
  have hlC := lt_of_block bC
  clear hF HT H2
  obtain ⟨x, z, hfx⟩ : ∃ x z, q.find badge = (x, z) := ⟨_, _, rfl⟩
  have HFX := hid hfx
  have hn8 : q.rows.length ≤ 8 := HV.out.q.n
  have hFind := hid (fun (wx : World) (T : List Thing) (h : St W wx ((R.set i NilT ++ xsL X Q q res pv progs lv ll) ++ T)) => by
    obtain ⟨a, c, hX⟩ := h.xq ((R.set i NilT).length + 1) (X := Q) (q := q) (by rw [List.append_assoc, get_behind]; rfl)
    exact x_find wx Q q a c hX hn8 badge hfx)
  have hnl : (ll.map (·.1)).length = q.rows.length := HV.out.nl
  rw [List.length_map] at hnl
  have HN := hid (And.intro hnl hn8)
  obtain ⟨la, lc, rfl⟩ := H3.roShape ((R.set i NilT).length + 3) (by rw [List.append_assoc, get_behind]; rfl)
  have k3 := cell_blk (i := 3) bC rfl
  have H3 := hid (show St W w1 ((R.set i NilT ++ xsL X Q q res pv progs (.slice la ll.length lc) ll) ++ [BlkT w.heap.size (chO ⟨4, n, job, badge, slot, life, code, bits, prog, texts⟩ t)]) from H3)
  have HS := hid (show ∀ (wx : World) (T : List Thing), St W wx ((R.set i NilT ++ xsL X Q q res pv progs (.slice la ll.length lc) ll) ++ (BlkT w.heap.size (chO ⟨4, n, job, badge, slot, life, code, bits, prog, texts⟩ t) :: T)) → wx.cell? ⟨X, 1, none⟩ = some (.pointer (some ⟨Q, 0, none⟩)) ∧ wx.cell? ⟨w.heap.size, 3, none⟩ = some (.int .i64 badge) from fun wx T h => ⟨cell_blk (i := 1) (h.blk ((R.set i NilT).length + 0) (by rw [List.append_assoc, get_behind]; rfl)) rfl, cell_blk (i := 3) (h.blk ((R.set i NilT ++ xsL X Q q res pv progs (.slice la ll.length lc) ll).length + 0) (by rw [get_behind]; rfl)) rfl⟩)
  clear bX bC hfx hn8 hnl
  go_upto_region 23 with (fail)
  go_cut [7, 8] (fun s7 s8 wx => ∃ (g : Nat), s7 = .pointer (some ⟨g, 0, none⟩) ∧ s8 = .bool z ∧ Hid (St W wx ((R.set i NilT ++ xsL X Q q res pv progs (.slice la ll.length lc) ll) ++ [BlkT w.heap.size (chO ⟨4, n, job, badge, slot, life, code, bits, prog, texts⟩ t), BlkT g (rwO x)])))
  case first =>
    refine wp_region_U (S := fun wx : World => wx.cell? ⟨X, 1, none⟩ = some (.pointer (some ⟨Q, 0, none⟩)) ∧ wx.cell? ⟨w.heap.size, 3, none⟩ = some (.int .i64 badge)) 12 (by kernel_rfl) (HS.out _ [] H3.out.drew) (fun hHeld => ?_)
    refine takeU (i := 0) (d := 136) (v := ?_) rfl rfl (by kernel_rfl) (by kernel_rfl) (by kernel_rfl) (by kernel_rfl) (by kernel_rfl) (fun _ _ _ h => h) (Or.inl ⟨by rfl, ?_⟩) hHeld ?_
    rotate_left
    · intro wq hSw; (try dsimp only at hSw); go_simp; all_goals (with_reducible rfl)
    simp only [Act.put, List.setIfInBounds_toArray, List.set_cons_zero, List.set_cons_succ]
    refine takeU (i := 1) (d := 137) (v := ?_) rfl rfl (by kernel_rfl) (by kernel_rfl) (by kernel_rfl) (by kernel_rfl) (by kernel_rfl) (fun _ _ _ h => h) (Or.inl ⟨by rfl, ?_⟩) hHeld ?_
    rotate_left
    · intro wq hSw; (try dsimp only at hSw); go_simp; all_goals (with_reducible rfl)
    simp only [Act.put, List.setIfInBounds_toArray, List.set_cons_zero, List.set_cons_succ]
    refine takeU (i := 2) (d := 138) (v := ?_) rfl rfl (by kernel_rfl) (by kernel_rfl) (by kernel_rfl) (by kernel_rfl) (by kernel_rfl) (fun _ _ _ h => h) (Or.inl ⟨by rfl, ?_⟩) hHeld ?_
    rotate_left
    · intro wq hSw; (try dsimp only at hSw); go_simp; all_goals (with_reducible rfl)
    simp only [Act.put, List.setIfInBounds_toArray, List.set_cons_zero, List.set_cons_succ]
    refine takeU (i := 3) (d := 139) (v := ?_) rfl rfl (by kernel_rfl) (by kernel_rfl) (by kernel_rfl) (by kernel_rfl) (by kernel_rfl) (fun _ _ _ h => h) (Or.inl ⟨by rfl, ?_⟩) hHeld ?_
    rotate_left
    · intro wq hSw; (try dsimp only at hSw); go_simp; all_goals (with_reducible rfl)
    simp only [Act.put, List.setIfInBounds_toArray, List.set_cons_zero, List.set_cons_succ]
    refine takeU (i := 4) (d := 140) (v := ?_) rfl rfl (by kernel_rfl) (by kernel_rfl) (by kernel_rfl) (by kernel_rfl) (by kernel_rfl) (fun _ _ _ h => h) (Or.inl ⟨by rfl, ?_⟩) hHeld ?_
    rotate_left
    · intro wq hSw; (try dsimp only at hSw); go_simp; all_goals (with_reducible rfl)
    simp only [Act.put, List.setIfInBounds_toArray, List.set_cons_zero, List.set_cons_succ]
    refine takeU (i := 5) (d := 141) (v := ?_) rfl rfl (by kernel_rfl) (by kernel_rfl) (by kernel_rfl) (by kernel_rfl) (by kernel_rfl) (fun _ _ _ h => h) (Or.inl ⟨by rfl, ?_⟩) hHeld ?_
    rotate_left
    · intro wq hSw; (try dsimp only at hSw); go_simp; all_goals (with_reducible rfl)
    simp only [Act.put, List.setIfInBounds_toArray, List.set_cons_zero, List.set_cons_succ]
    refine wpAnyU_ready (rs := [6, 10]) (by kernel_rfl) (by simp) ?_
    refine AllReadyU.cons rfl (fun K hK => ?_) (AllReadyU.cons rfl (fun K hK => ?_) AllReadyU.nil)
    · go_simp
      go_at_call 34
      refine (hFind.out _ _ H3.out.drew).mono ?_
      rintro e w2 ⟨rfl, hF⟩
      have H4 := hid (H3.out.drew.same hF)
      refine hK.out _ _ (fun _ => HS.out _ _ H4.out) (fun hHeld => ?_)
      clear hK K hF
      have hHeld := hHeld (by decide)
      refine takeU (i := 7) (d := 135) (v := ?_) rfl rfl (by kernel_rfl) (by kernel_rfl) (by kernel_rfl) (by kernel_rfl) (by kernel_rfl) (fun _ _ _ h => h) (Or.inl ⟨by rfl, ?_⟩) hHeld ?_
      rotate_left
      · intro wq hSw; (try dsimp only at hSw); go_simp; all_goals (with_reducible rfl)
      simp only [Act.put, List.setIfInBounds_toArray, List.set_cons_zero, List.set_cons_succ]
      refine takeU (i := 8) (d := 143) (v := ?_) rfl rfl (by kernel_rfl) (by kernel_rfl) (by kernel_rfl) (by kernel_rfl) (by kernel_rfl) (fun _ _ _ h => h) (Or.inl ⟨by rfl, ?_⟩) hHeld ?_
      rotate_left
      · intro wq hSw; (try dsimp only at hSw); go_simp; all_goals (with_reducible rfl)
      simp only [Act.put, List.setIfInBounds_toArray, List.set_cons_zero, List.set_cons_succ]
      refine takeU (i := 9) (d := 144) (v := ?_) rfl rfl (by kernel_rfl) (by kernel_rfl) (by kernel_rfl) (by kernel_rfl) (by kernel_rfl) (fun _ _ _ h => h) (Or.inl ⟨by rfl, ?_⟩) hHeld ?_
      rotate_left
      · intro wq hSw; (try dsimp only at hSw); go_simp; all_goals (with_reducible rfl)
      simp only [Act.put, List.setIfInBounds_toArray, List.set_cons_zero, List.set_cons_succ]
      refine wpAnyU_ready (rs := [10]) (by kernel_rfl) (by simp) ?_
      refine AllReadyU.cons rfl (fun K hK => ?_) AllReadyU.nil
      go_simp
      have H5 := hid (show St W (w2.alloc (rwO QR.zero)) ((R.set i NilT ++ xsL X Q q res pv progs (.slice la ll.length lc) ll) ++ [BlkT w.heap.size (chO ⟨4, n, job, badge, slot, life, code, bits, prog, texts⟩ t), BlkT w2.heap.size (rwO QR.zero)]) from by have h := H4.out.alloc (rwO QR.zero); rw [List.append_assoc] at h; exact h)
      refine hK.out _ _ (fun _ => HS.out _ _ H5.out) (fun hHeld => ?_)
      clear hK K
      refine wpAnyU_ready (rs := [11]) (by kernel_rfl) (by simp) ?_
      refine AllReadyU.cons rfl (fun K hK => ?_) AllReadyU.nil
      go_simp
      have H6 := hid (show St W (w2.alloc (rwO x)) ((R.set i NilT ++ xsL X Q q res pv progs (.slice la ll.length lc) ll) ++ [BlkT w.heap.size (chO ⟨4, n, job, badge, slot, life, code, bits, prog, texts⟩ t), BlkT w2.heap.size (rwO x)]) from by have h := H4.out.alloc (rwO x); rw [List.append_assoc] at h; exact h)
      refine hK.out _ _ (fun _ => HS.out _ _ H6.out) (fun hHeld => ?_)
      clear hK K
      refine wpAnyU_ready (rs := [12]) (by kernel_rfl) (by simp) ?_
      refine AllReadyU.cons rfl (fun K hK => ?_) AllReadyU.nil
      go_simp
      refine hK.out _ _ (fun h => absurd rfl h) (fun _ => ?_)
      clear hK K
      refine wpAnyU_done (by kernel_rfl) ?_ _
      clear hHeld
      go_wp2_with fail
      go_meet
      exact ⟨_, rfl, rfl, H6⟩
    · go_simp
      have H4 := hid (show St W (w1.drew.alloc (rwO QR.zero)) ((R.set i NilT ++ xsL X Q q res pv progs (.slice la ll.length lc) ll) ++ [BlkT w.heap.size (chO ⟨4, n, job, badge, slot, life, code, bits, prog, texts⟩ t), BlkT w1.heap.size (rwO QR.zero)]) from by have h := H3.out.drew.alloc (rwO QR.zero); rw [List.append_assoc] at h; exact h)
      refine hK.out _ _ (fun _ => HS.out _ _ H4.out) (fun hHeld => ?_)
      clear hK K
      refine wpAnyU_ready (rs := [6]) (by kernel_rfl) (by simp) ?_
      refine AllReadyU.cons rfl (fun K hK => ?_) AllReadyU.nil
      go_simp
      go_at_call 34
      refine (hFind.out _ _ H4.out).mono ?_
      rintro e w2 ⟨rfl, hF⟩
      have H5 := hid (H4.out.same hF)
      refine hK.out _ _ (fun _ => HS.out _ _ H5.out) (fun hHeld => ?_)
      clear hK K hF
      have hHeld := hHeld (by decide)
      refine takeU (i := 7) (d := 135) (v := ?_) rfl rfl (by kernel_rfl) (by kernel_rfl) (by kernel_rfl) (by kernel_rfl) (by kernel_rfl) (fun _ _ _ h => h) (Or.inl ⟨by rfl, ?_⟩) hHeld ?_
      rotate_left
      · intro wq hSw; (try dsimp only at hSw); go_simp; all_goals (with_reducible rfl)
      simp only [Act.put, List.setIfInBounds_toArray, List.set_cons_zero, List.set_cons_succ]
      refine takeU (i := 8) (d := 143) (v := ?_) rfl rfl (by kernel_rfl) (by kernel_rfl) (by kernel_rfl) (by kernel_rfl) (by kernel_rfl) (fun _ _ _ h => h) (Or.inl ⟨by rfl, ?_⟩) hHeld ?_
      rotate_left
      · intro wq hSw; (try dsimp only at hSw); go_simp; all_goals (with_reducible rfl)
      simp only [Act.put, List.setIfInBounds_toArray, List.set_cons_zero, List.set_cons_succ]
      refine takeU (i := 9) (d := 144) (v := ?_) rfl rfl (by kernel_rfl) (by kernel_rfl) (by kernel_rfl) (by kernel_rfl) (by kernel_rfl) (fun _ _ _ h => h) (Or.inl ⟨by rfl, ?_⟩) hHeld ?_
      rotate_left
      · intro wq hSw; (try dsimp only at hSw); go_simp; all_goals (with_reducible rfl)
      simp only [Act.put, List.setIfInBounds_toArray, List.set_cons_zero, List.set_cons_succ]
      have b4 : w2.heap[w1.heap.size]? = some (rwO QR.zero) := H5.out.blk ((R.set i NilT ++ xsL X Q q res pv progs (.slice la ll.length lc) ll).length + 1) (by rw [get_behind]; rfl)
      have zz0 := cell_blk (i := 0) b4 rfl
      have yy0 := free_blk (i := 0) b4
      have zz1 := cell_blk (i := 1) b4 rfl
      have yy1 := free_blk (i := 1) b4
      have zz2 := cell_blk (i := 2) b4 rfl
      have yy2 := free_blk (i := 2) b4
      have zz3 := cell_blk (i := 3) b4 rfl
      have yy3 := free_blk (i := 3) b4
      have zz4 := cell_blk (i := 4) b4 rfl
      have yy4 := free_blk (i := 4) b4
      have zz5 := cell_blk (i := 5) b4 rfl
      have yy5 := free_blk (i := 5) b4
      have zz6 := cell_blk (i := 6) b4 rfl
      have yy6 := free_blk (i := 6) b4
      have zz7 := cell_blk (i := 7) b4 rfl
      have yy7 := free_blk (i := 7) b4
      have ly := lt_of_block b4
      clear b4
      refine wpAnyU_ready (rs := [11]) (by kernel_rfl) (by simp) ?_
      refine AllReadyU.cons rfl (fun K hK => ?_) AllReadyU.nil
      go_simp
      have H6 := hid (show St W _ ((R.set i NilT ++ xsL X Q q res pv progs (.slice la ll.length lc) ll) ++ [BlkT w.heap.size (chO ⟨4, n, job, badge, slot, life, code, bits, prog, texts⟩ t), BlkT w1.heap.size (rwO x)]) from by
        have h := St.blk8 (T := (R.set i NilT ++ xsL X Q q res pv progs (.slice la ll.length lc) ll) ++ [BlkT w.heap.size (chO ⟨4, n, job, badge, slot, life, code, bits, prog, texts⟩ t)]) (rest := []) (.int .i64 x.job) (.int .i64 x.st) (.int .i64 x.at_) (.int .i64 x.ba) (.int .i64 x.node) (.int .i64 x.life) (.int .i64 x.code) (.int .u64 x.bits) (by rw [List.append_assoc]; exact H5.out)
        rw [List.append_assoc] at h; exact h)
      refine hK.out _ _ (fun _ => HS.out _ _ H6.out) (fun hHeld => ?_)
      clear hK K
      refine wpAnyU_ready (rs := [12]) (by kernel_rfl) (by simp) ?_
      refine AllReadyU.cons rfl (fun K hK => ?_) AllReadyU.nil
      go_simp
      refine hK.out _ _ (fun h => absurd rfl h) (fun _ => ?_)
      clear hK K
      refine wpAnyU_done (by kernel_rfl) ?_ _
      clear hHeld
      go_wp2_with fail
      go_meet
      exact ⟨_, rfl, rfl, H6⟩
  case rest =>
    obtain ⟨g, rfl, rfl, HP⟩ := hcut
    have hZ := HZ.out
    unfold SV.log at hZ
    simp only [HFX.out] at hZ
    have b1 := HP.out.blk ((R.set i NilT).length + 0) (by rw [List.append_assoc, get_behind]; rfl)
    have b2 := HP.out.blk ((R.set i NilT ++ xsL X Q q res pv progs (.slice la ll.length lc) ll).length + 0) (by rw [get_behind]; rfl)
    have b3 : wc.heap[g]? = some (rwO x) := HP.out.blk ((R.set i NilT ++ xsL X Q q res pv progs (.slice la ll.length lc) ll).length + 1) (by rw [get_behind]; rfl)
    have z3 := cell_blk (i := 3) b1 rfl
    have c8 := cell_blk (i := 9) b2 rfl
    have r0 := cell_blk (i := 0) b3 rfl
    have r1 := cell_blk (i := 1) b3 rfl
    have lb1 := lt_of_block b1
    have lb2 := lt_of_block b2
    have lb3 := lt_of_block b3
    clear b1 b2 b3 x0 x1 k0 k3 HS H3 hFind
    cases z
    · rw [if_pos rfl] at hZ
      have ho := hid hZ
      clear hZ
      go_wp2_with fail
      go_quiet (fail)
      go_wp2_with fail
      go_ret
      exact XDoTo.no ho.out.symm (St.xsBack HL.out (HP.out.drewN _).drop)
    · rw [if_neg (by decide)] at hZ
      by_cases hst : x.st = 2
      · rw [if_neg (fun h => h hst)] at hZ
        obtain ⟨k, hk, hxk, hjob⟩ := sfind_at HV.out.q HFX.out
        have hk : k < q.rows.length := hk
        have hkl : k < ll.length := by rw [HN.out.1]; exact hk
        obtain ⟨y, hy⟩ : ∃ y, ll[k]? = some y := ⟨_, List.getElem?_eq_getElem hkl⟩
        have hyn : tL.nth ll k = y := by have := tL.nth_get hkl; rw [hy] at this; exact (Option.some.inj this).symm
        have hrow := HP.out.roRow ((R.set i NilT).length + 3) (by rw [List.append_assoc, get_behind]; rfl)
        obtain ⟨lg, lc', hsl, _⟩ := ownsRow_shape hrow (by omega)
        cases hsl
        have r2 := (ownsRow_cell hrow k (by rw [gt_get hkl, hyn])).1
        have hn8 : q.rows.length ≤ 8 := HN.out.2
        have hlk8 : k < 8 := by omega
        have hjk : (x.job - 1).toNat = k := by omega
        have hlk : (ll.map (·.1)).getD k [] = y.1 := by rw [List.getD, List.getElem?_map, hy]; rfl
        have hy32 : y.1.length ≤ 32 := (HV.out.lg y.1 (List.mem_map_of_mem (List.mem_of_getElem? hy))).1
        simp only [hjk, hlk] at hZ
        have ht8 : texts.length ≤ 8 := HT8.out.2
        have hw1 : IntKind.i64.wrap (x.job - 1) = (k : Int) := by rw [show x.job - 1 = (k : Int) by omega]; exact IntWalk.i64_in _ (by omega)
        have hw2 : IntKind.i64.wrap ((y.1.length : Int) + texts.length) = (y.1.length : Int) + texts.length := IntWalk.i64_in _ (by omega)
        have hk1 : (k : Int) < ll.length := by omega
        have hk0 : (0 : Int) ≤ k := by omega
        have hst1 : (x.st == 2) = true := by rw [beq_iff_eq]; exact hst
        have hst2 : (x.st != 2) = false := by simp [bne, hst1]
        have HY := hid (And.intro hy (And.intro hyn (And.intro hkl (And.intro hjob (And.intro hy32 hk)))))
        clear hrow hxk hjob hjk hlk hyn hst hk hy hn8 hlk8
        by_cases h32 : 32 < y.1.length + texts.length
        · rw [if_pos h32] at hZ
          have ho := hid hZ
          have hd : decide ((32 : Int) < (y.1.length : Int) + texts.length) = true := decide_eq_true (by omega)
          clear h32 hkl hZ hy32 ht8
          go_wp2_with fail
          go_quiet (fail)
          go_wp2_with fail
          go_ret
          exact XDoTo.no ho.out.symm (St.xsBack HL.out (HP.out.drewN _).drop)
        · rw [if_neg h32] at hZ
          have ho := hid hZ
          have hd : decide ((32 : Int) < (y.1.length : Int) + texts.length) = false := decide_eq_false (by omega)
          have HB := hid (show y.1.length * 16 ≤ 140737488355328 ∧ y.1.length + texts.length ≤ maxLen ∧ (y.1.length + texts.length) * 16 ≤ 140737488355328 from by unfold maxLen; omega)
          clear h32 hkl hZ hy32 ht8
          go_wp2_with fail
          go_quiet (fail)
          go_wp2_with fail
          have HQ := hid (HP.out.drewN nq)
          clear z3 c8 r0 r1 lb1 lb2 lb3 HP hd hst1 hst2 hw2 r2
          generalize wc.drewN nq = wq at HQ ⊢
          have HS := hid (show ∀ (wx : World) (T : List Thing), St W wx ((R.set i NilT ++ xsL X Q q res pv progs (.slice (some ⟨lg, 0, none⟩) ll.length lc) ll) ++ (BlkT w.heap.size (chO ⟨4, n, job, badge, slot, life, code, bits, prog, texts⟩ t) :: BlkT g (rwO x) :: T)) → wx.cell? ⟨X, 3, none⟩ = some (.slice (some ⟨lg, 0, none⟩) ll.length lc) ∧ wx.cell? ⟨g, 0, none⟩ = some (.int .i64 x.job) ∧ wx.cell? ⟨lg, k, none⟩ = some (.slice y.2.a y.1.length y.2.c) ∧ wx.cell? ⟨w.heap.size, 9, none⟩ = some (.slice t.a texts.length t.c) from fun wx T h =>
            ⟨cell_blk (i := 3) (h.blk ((R.set i NilT).length + 0) (by rw [List.append_assoc, get_behind]; rfl)) rfl, cell_blk (i := 0) (h.blk ((R.set i NilT ++ xsL X Q q res pv progs (.slice (some ⟨lg, 0, none⟩) ll.length lc) ll).length + 1) (by rw [get_behind]; rfl)) rfl, (ownsRow_cell (h.roRow ((R.set i NilT).length + 3) (by rw [List.append_assoc, get_behind]; rfl)) k (by rw [gt_get HY.out.2.2.1, HY.out.2.1])).1, cell_blk (i := 9) (h.blk ((R.set i NilT ++ xsL X Q q res pv progs (.slice (some ⟨lg, 0, none⟩) ll.length lc) ll).length + 0) (by rw [get_behind]; rfl)) rfl⟩)
          have zX := lt_of_block (HQ.out.blk ((R.set i NilT).length + 0) (by rw [List.append_assoc, get_behind]; rfl))
          have zC := lt_of_block (HQ.out.blk ((R.set i NilT ++ xsL X Q q res pv progs (.slice (some ⟨lg, 0, none⟩) ll.length lc) ll).length + 0) (by rw [get_behind]; rfl))
          refine wp_region_U (S := fun wx : World => wx.cell? ⟨X, 3, none⟩ = some (.slice (some ⟨lg, 0, none⟩) ll.length lc) ∧ wx.cell? ⟨g, 0, none⟩ = some (.int .i64 x.job) ∧ wx.cell? ⟨lg, k, none⟩ = some (.slice y.2.a y.1.length y.2.c) ∧ wx.cell? ⟨w.heap.size, 9, none⟩ = some (.slice t.a texts.length t.c)) 24 (by kernel_rfl) (HS.out _ [] HQ.out.drew) (fun hHeld => ?_)
          refine takeU (i := 0) (d := 169) (v := ?_) rfl rfl (by kernel_rfl) (by kernel_rfl) (by kernel_rfl) (by kernel_rfl) (by kernel_rfl) (fun _ _ _ h => h) (Or.inl ⟨by rfl, ?_⟩) hHeld ?_
          rotate_left
          · intro wq hSw; (try dsimp only at hSw); go_simp; all_goals (with_reducible rfl)
          simp only [Act.put, List.setIfInBounds_toArray, List.set_cons_zero, List.set_cons_succ]
          refine takeU (i := 1) (d := 170) (v := ?_) rfl rfl (by kernel_rfl) (by kernel_rfl) (by kernel_rfl) (by kernel_rfl) (by kernel_rfl) (fun _ _ _ h => h) (Or.inl ⟨by rfl, ?_⟩) hHeld ?_
          rotate_left
          · intro wq hSw; (try dsimp only at hSw); go_simp; all_goals (with_reducible rfl)
          simp only [Act.put, List.setIfInBounds_toArray, List.set_cons_zero, List.set_cons_succ]
          refine takeU (i := 2) (d := 171) (v := ?_) rfl rfl (by kernel_rfl) (by kernel_rfl) (by kernel_rfl) (by kernel_rfl) (by kernel_rfl) (fun _ _ _ h => h) (Or.inl ⟨by rfl, ?_⟩) hHeld ?_
          rotate_left
          · intro wq hSw; (try dsimp only at hSw); go_simp; all_goals (with_reducible rfl)
          simp only [Act.put, List.setIfInBounds_toArray, List.set_cons_zero, List.set_cons_succ]
          refine takeU (i := 3) (d := 172) (v := ?_) rfl rfl (by kernel_rfl) (by kernel_rfl) (by kernel_rfl) (by kernel_rfl) (by kernel_rfl) (fun _ _ _ h => h) (Or.inl ⟨by rfl, ?_⟩) hHeld ?_
          rotate_left
          · intro wq hSw; (try dsimp only at hSw); go_simp; all_goals (with_reducible rfl)
          simp only [Act.put, List.setIfInBounds_toArray, List.set_cons_zero, List.set_cons_succ]
          refine takeU (i := 4) (d := 173) (v := ?_) rfl rfl (by kernel_rfl) (by kernel_rfl) (by kernel_rfl) (by kernel_rfl) (by kernel_rfl) (fun _ _ _ h => h) (Or.inl ⟨by rfl, ?_⟩) hHeld ?_
          rotate_left
          · intro wq hSw; (try dsimp only at hSw); go_simp; all_goals (with_reducible rfl)
          simp only [Act.put, List.setIfInBounds_toArray, List.set_cons_zero, List.set_cons_succ]
          refine takeU (i := 5) (d := 174) (v := ?_) rfl rfl (by kernel_rfl) (by kernel_rfl) (by kernel_rfl) (by kernel_rfl) (by kernel_rfl) (fun _ _ _ h => h) (Or.inl ⟨by rfl, ?_⟩) hHeld ?_
          rotate_left
          · intro wq hSw; (try dsimp only at hSw); go_simp; all_goals (with_reducible rfl)
          simp only [Act.put, List.setIfInBounds_toArray, List.set_cons_zero, List.set_cons_succ]
          refine takeU (i := 6) (d := 175) (v := ?_) rfl rfl (by kernel_rfl) (by kernel_rfl) (by kernel_rfl) (by kernel_rfl) (by kernel_rfl) (fun _ _ _ h => h) (Or.inl ⟨by rfl, ?_⟩) hHeld ?_
          rotate_left
          · intro wq hSw; (try dsimp only at hSw); go_simp; all_goals (with_reducible rfl)
          simp only [Act.put, List.setIfInBounds_toArray, List.set_cons_zero, List.set_cons_succ]
          refine takeU (i := 8) (d := 177) (v := ?_) rfl rfl (by kernel_rfl) (by kernel_rfl) (by kernel_rfl) (by kernel_rfl) (by kernel_rfl) (fun _ _ _ h => h) (Or.inl ⟨by rfl, ?_⟩) hHeld ?_
          rotate_left
          · intro wq hSw; (try dsimp only at hSw); go_simp; all_goals (with_reducible rfl)
          simp only [Act.put, List.setIfInBounds_toArray, List.set_cons_zero, List.set_cons_succ]
          refine takeU (i := 9) (d := 178) (v := ?_) rfl rfl (by kernel_rfl) (by kernel_rfl) (by kernel_rfl) (by kernel_rfl) (by kernel_rfl) (fun _ _ _ h => h) (Or.inl ⟨by rfl, ?_⟩) hHeld ?_
          rotate_left
          · intro wq hSw; (try dsimp only at hSw); go_simp; all_goals (with_reducible rfl)
          simp only [Act.put, List.setIfInBounds_toArray, List.set_cons_zero, List.set_cons_succ]
          refine takeU (i := 10) (d := 179) (v := ?_) rfl rfl (by kernel_rfl) (by kernel_rfl) (by kernel_rfl) (by kernel_rfl) (by kernel_rfl) (fun _ _ _ h => h) (Or.inl ⟨by rfl, ?_⟩) hHeld ?_
          rotate_left
          · intro wq hSw; (try dsimp only at hSw); go_simp; all_goals (with_reducible rfl)
          simp only [Act.put, List.setIfInBounds_toArray, List.set_cons_zero, List.set_cons_succ]
          refine takeU (i := 11) (d := 180) (v := ?_) rfl rfl (by kernel_rfl) (by kernel_rfl) (by kernel_rfl) (by kernel_rfl) (by kernel_rfl) (fun _ _ _ h => h) (Or.inl ⟨by rfl, ?_⟩) hHeld ?_
          rotate_left
          · intro wq hSw; (try dsimp only at hSw); go_simp; all_goals (with_reducible rfl)
          simp only [Act.put, List.setIfInBounds_toArray, List.set_cons_zero, List.set_cons_succ]
          refine takeU (i := 12) (d := 181) (v := ?_) rfl rfl (by kernel_rfl) (by kernel_rfl) (by kernel_rfl) (by kernel_rfl) (by kernel_rfl) (fun _ _ _ h => h) (Or.inl ⟨by rfl, ?_⟩) hHeld ?_
          rotate_left
          · intro wq hSw; (try dsimp only at hSw); go_simp; all_goals (with_reducible rfl)
          simp only [Act.put, List.setIfInBounds_toArray, List.set_cons_zero, List.set_cons_succ]
          refine takeU (i := 13) (d := 182) (v := ?_) rfl rfl (by kernel_rfl) (by kernel_rfl) (by kernel_rfl) (by kernel_rfl) (by kernel_rfl) (fun _ _ _ h => h) (Or.inl ⟨by rfl, ?_⟩) hHeld ?_
          rotate_left
          · intro wq hSw; (try dsimp only at hSw); go_simp; all_goals (with_reducible rfl)
          simp only [Act.put, List.setIfInBounds_toArray, List.set_cons_zero, List.set_cons_succ]
          refine takeU (i := 14) (d := 183) (v := ?_) rfl rfl (by kernel_rfl) (by kernel_rfl) (by kernel_rfl) (by kernel_rfl) (by kernel_rfl) (fun _ _ _ h => h) (Or.inl ⟨by rfl, ?_⟩) hHeld ?_
          rotate_left
          · intro wq hSw; (try dsimp only at hSw); go_simp; all_goals (with_reducible rfl)
          simp only [Act.put, List.setIfInBounds_toArray, List.set_cons_zero, List.set_cons_succ]
          refine takeU (i := 15) (d := 184) (v := ?_) rfl rfl (by kernel_rfl) (by kernel_rfl) (by kernel_rfl) (by kernel_rfl) (by kernel_rfl) (fun _ _ _ h => h) (Or.inl ⟨by rfl, ?_⟩) hHeld ?_
          rotate_left
          · intro wq hSw; (try dsimp only at hSw); go_simp; all_goals (with_reducible rfl)
          simp only [Act.put, List.setIfInBounds_toArray, List.set_cons_zero, List.set_cons_succ]
          refine takeU (i := 16) (d := 185) (v := ?_) rfl rfl (by kernel_rfl) (by kernel_rfl) (by kernel_rfl) (by kernel_rfl) (by kernel_rfl) (fun _ _ _ h => h) (Or.inl ⟨by rfl, ?_⟩) hHeld ?_
          rotate_left
          · intro wq hSw; (try dsimp only at hSw); go_simp; all_goals (with_reducible rfl)
          simp only [Act.put, List.setIfInBounds_toArray, List.set_cons_zero, List.set_cons_succ]
          refine takeU (i := 18) (d := 187) (v := ?_) rfl rfl (by kernel_rfl) (by kernel_rfl) (by kernel_rfl) (by kernel_rfl) (by kernel_rfl) (fun _ _ _ h => h) (Or.inl ⟨by rfl, ?_⟩) hHeld ?_
          rotate_left
          · intro wq hSw; (try dsimp only at hSw); go_simp; all_goals (with_reducible rfl)
          simp only [Act.put, List.setIfInBounds_toArray, List.set_cons_zero, List.set_cons_succ]
          refine takeU (i := 19) (d := 188) (v := ?_) rfl rfl (by kernel_rfl) (by kernel_rfl) (by kernel_rfl) (by kernel_rfl) (by kernel_rfl) (fun _ _ _ h => h) (Or.inl ⟨by rfl, ?_⟩) hHeld ?_
          rotate_left
          · intro wq hSw; (try dsimp only at hSw); go_simp; all_goals (with_reducible rfl)
          simp only [Act.put, List.setIfInBounds_toArray, List.set_cons_zero, List.set_cons_succ]
          refine wpAnyU_ready (rs := [7]) (by kernel_rfl) (by simp) ?_
          refine AllReadyU.cons rfl (fun K hK => ?_) AllReadyU.nil
          go_simp
          have H5 := hid (show St W (wq.drew.alloc (.cells #[] 9)) ((R.set i NilT ++ xsL X Q q res pv progs (.slice (some ⟨lg, 0, none⟩) ll.length lc) ll) ++ [BlkT w.heap.size (chO ⟨4, n, job, badge, slot, life, code, bits, prog, texts⟩ t), BlkT g (rwO x), RowT 9 1 (.slice (some ⟨wq.heap.size, 0, none⟩) 0 0) 0 []]) from by have h := HQ.out.drew.newRow 9 1; rw [List.append_assoc] at h; exact h)
          refine hK.out _ _ (fun _ => HS.out _ _ H5.out) (fun hHeld => ?_)
          clear hK K
          refine wpAnyU_ready (rs := [17]) (by kernel_rfl) (by simp) ?_
          refine AllReadyU.cons rfl (fun K hK => ?_) AllReadyU.nil
          refine stepCopied H5.out ((R.set i NilT ++ xsL X Q q res pv progs (.slice (some ⟨lg, 0, none⟩) ll.length lc) ll).length + 2) rfl (.tmp 176) (.tmp 185) 41 rfl 9 i0 (.string ByteArray.empty) 1 16 Tryz.underlying41 HI.out.1 HI.out.2.1 HI.out.2.2.1 HI.out.2.2.2 rfl (by decide) wq.heap.size (by rw [get_behind]; rfl) rfl y.2.a y.1.length y.2.c (sL.at_ y.1) rfl (H5.out.roLay sL ((R.set i NilT).length + (4 + k)) (xs_getL HY.out.1)) (fun j _ => sL.at_one _ j) HB.out.1 ?_
          intro g6 cap6 w3 H6
          rw [set_behind] at H6
          have H6 : St W w3 ((R.set i NilT ++ xsL X Q q res pv progs (.slice (some ⟨lg, 0, none⟩) ll.length lc) ll) ++ [BlkT w.heap.size (chO ⟨4, n, job, badge, slot, life, code, bits, prog, texts⟩ t), BlkT g (rwO x), RowT 9 1 (.slice (some ⟨g6, 0, none⟩) y.1.length cap6) y.1.length (sL.cells y.1)]) := by
            rw [← sL.range y.1]; exact H6
          have H6 := hid H6
          refine hK.out _ _ (fun _ => HS.out _ _ H6.out) (fun hHeld => ?_)
          clear hK K
          refine wpAnyU_ready (rs := [20]) (by kernel_rfl) (by simp) ?_
          refine AllReadyU.cons rfl (fun K hK => ?_) AllReadyU.nil
          refine stepAdded H6.out ((R.set i NilT ++ xsL X Q q res pv progs (.slice (some ⟨lg, 0, none⟩) ll.length lc) ll).length + 2) rfl (.tmp 186) (.tmp 188) 41 rfl 9 i0 (.string ByteArray.empty) 1 16 Tryz.underlying41 HI.out.1 HI.out.2.1 HI.out.2.2.1 HI.out.2.2.2 rfl (by decide) (.slice (some ⟨g6, 0, none⟩) y.1.length cap6) y.1.length (sL.cells y.1) (by rw [get_behind]; rfl) rfl t.a texts.length t.c (sL.at_ texts) rfl (HTT.out _ _ (by have := H6.out; rw [List.append_assoc] at this; exact this)) (fun j _ => sL.at_one _ j) HB.out.2.1 HB.out.2.2 ?_
          intro a5 c5 w5 H7
          rw [set_behind, show (List.range (texts.length * 1)).map (sL.at_ texts) = sL.cells texts from sL.range texts, show sL.cells y.1 ++ sL.cells texts = sL.cells (y.1 ++ texts) by simp [Lay.cells]] at H7
          have H7 : St W w5 ((R.set i NilT ++ xsL X Q q res pv progs (.slice (some ⟨lg, 0, none⟩) ll.length lc) ll) ++ [BlkT w.heap.size (chO ⟨4, n, job, badge, slot, life, code, bits, prog, texts⟩ t), BlkT g (rwO x), RowT 9 1 (.slice a5 (y.1.length + texts.length) c5) (y.1.length + texts.length) (sL.cells (y.1 ++ texts))]) := H7
          have H7 := hid H7
          refine hK.out _ _ (fun _ => HS.out _ _ H7.out) (fun hHeld => ?_)
          clear hK K
          refine wpAnyU_ready (rs := [21]) (by kernel_rfl) (by simp) ?_
          refine AllReadyU.cons rfl (fun K hK => ?_) AllReadyU.nil
          go_simp
          go_at_call 81
          have HW : Calls Tryz.prog 81 #[.slice (some ⟨lg, 0, none⟩) ll.length lc, .int .i64 x.job, .slice a5 (y.1.length + texts.length) c5] w5 (fun e w' => ∃ g7 cap7, e = .returned (.slice (some ⟨g7, 0, none⟩) ll.length cap7) ∧ St W w' (((R.set i NilT ++ xsL X Q q res pv progs (.slice (some ⟨lg, 0, none⟩) ll.length lc) ll) ++ [BlkT w.heap.size (chO ⟨4, n, job, badge, slot, life, code, bits, prog, texts⟩ t), BlkT g (rwO x), RowT 9 1 (.slice a5 (y.1.length + texts.length) c5) (y.1.length + texts.length) (sL.cells (y.1 ++ texts))]) ++ [RowT 41 1 (.slice (some ⟨g7, 0, none⟩) ll.length cap7) ll.length (tL.cells (ll.set k (y.1 ++ texts, ⟨a5, c5⟩)))])) := by
            have h := st_with H7.out (some ⟨lg, 0, none⟩) lc ll (H7.out.roLay tL ((R.set i NilT).length + 3) (by rw [List.append_assoc, get_behind]; rfl)) (by rw [HN.out.1]; exact HN.out.2) k HY.out.2.2.1 a5 c5 (y.1 ++ texts)
            rw [List.length_append, ← HY.out.2.2.2.1] at h
            exact h
          refine HW.mono ?_
          rintro e w6 ⟨g7, cap7, rfl, H8⟩
          clear HW
          rw [List.append_assoc] at H8
          have H8 : St W w6 ((R.set i NilT ++ xsL X Q q res pv progs (.slice (some ⟨lg, 0, none⟩) ll.length lc) ll) ++ [BlkT w.heap.size (chO ⟨4, n, job, badge, slot, life, code, bits, prog, texts⟩ t), BlkT g (rwO x), RowT 9 1 (.slice a5 (y.1.length + texts.length) c5) (y.1.length + texts.length) (sL.cells (y.1 ++ texts)), RowT 41 1 (.slice (some ⟨g7, 0, none⟩) ll.length cap7) ll.length (tL.cells (ll.set k (y.1 ++ texts, ⟨a5, c5⟩)))]) := H8
          have H9 := H8.ro ((R.set i NilT ++ xsL X Q q res pv progs (.slice (some ⟨lg, 0, none⟩) ll.length lc) ll).length + 2) (by rw [get_behind]; rfl)
          rw [set_behind] at H9
          have b4 := H8.blk ((R.set i NilT).length + 0) (by rw [List.append_assoc, get_behind]; rfl)
          have e3 := cell_blk (i := 3) b4 rfl
          have n3 := free_blk (i := 3) b4
          have l4 := lt_of_block b4
          have H8 := hid H8
          have H9 := hid H9
          refine hK.out _ _ (fun _ => HS.out _ _ H8.out) (fun hHeld => ?_)
          clear hK K b4
          have hHeld := hHeld (by decide)
          refine takeU (i := 22) (d := 191) (v := ?_) rfl rfl (by kernel_rfl) (by kernel_rfl) (by kernel_rfl) (by kernel_rfl) (by kernel_rfl) (fun _ _ _ h => h) (Or.inl ⟨by rfl, ?_⟩) hHeld ?_
          rotate_left
          · intro wq hSw; (try dsimp only at hSw); go_simp; all_goals (with_reducible rfl)
          simp only [Act.put, List.setIfInBounds_toArray, List.set_cons_zero, List.set_cons_succ]
          refine takeU (i := 23) (d := 192) (v := ?_) rfl rfl (by kernel_rfl) (by kernel_rfl) (by kernel_rfl) (by kernel_rfl) (by kernel_rfl) (fun _ _ _ h => h) (Or.inl ⟨by rfl, ?_⟩) hHeld ?_
          rotate_left
          · intro wq hSw; (try dsimp only at hSw); go_simp; all_goals (with_reducible rfl)
          simp only [Act.put, List.setIfInBounds_toArray, List.set_cons_zero, List.set_cons_succ]
          refine wpAnyU_ready (rs := [24]) (by kernel_rfl) (by simp) ?_
          refine AllReadyU.cons rfl (fun K hK => ?_) AllReadyU.nil
          go_simp
          have H10 := hid (St.xsLogs (ll' := ll.set k (y.1 ++ texts, ⟨a5, c5⟩)) H9.out 3 rfl (by simp) (fun x hx => by
            rcases List.mem_or_eq_of_mem_set hx with h | h
            · exact List.mem_append_left _ (List.mem_map_of_mem h)
            · rw [h]; exact List.mem_append_right _ (by simp [lgR])))
          refine hK.out _ _ (fun h => absurd rfl h) (fun _ => ?_)
          clear hK K
          refine wpAnyU_done (by kernel_rfl) ?_ _
          clear hHeld e3 n3
          go_wp2_with fail
          go_ret
          have h10 := St.xsBack HL.out H10.out
          rw [List.map_set] at h10
          exact XDoTo.yes ho.out.symm h10
      · rw [if_pos hst] at hZ
        have ho := hid hZ
        have hst1 : (x.st == 2) = false := by rw [beq_eq_false_iff_ne]; exact hst
        have hst2 : (x.st != 2) = true := by simp [bne, hst1]
        clear hZ hst
        go_wp2_with fail
        go_quiet (fail)
        go_wp2_with fail
        go_ret
        exact XDoTo.no ho.out.symm (St.xsBack HL.out (HP.out.drewN _).drop)
end
end Go.Proofs.YtmgnekjhlfghaaaGreat

/-
  The document's state: one, whatever the change; Apply.
-/
namespace Go.Proofs.YtmgnekjhlfghaaaGreat
open Go.RowKit
set_option linter.unusedVariables false
set_option linter.unusedSimpArgs false

section
variable {W : Base} {w : World} {R : List Thing}
theorem st_tone (H : St W w R) (i : Nat) {X : Nat} {v : SV} (hi : R[i]? = some (XsT X v)) (hv : v.wf) (c : CV) (t : TS) (ht : In w 1 t.a c.texts.length t.c (sL.at_ c.texts))
    (hT : ∀ (wx : World) (T : List Thing), St W wx (R.set i NilT ++ T) → In wx 1 t.a c.texts.length t.c (sL.at_ c.texts)) :
    Calls Tryz.prog 29 #[.pointer (some ⟨X, 0, none⟩), .agg (c.f t).toArray] w (XDoTo W R i X (v.one c)) := by
  by_cases hc : c.check = 0
  · rw [show v.one c = v.does c by rw [SV.one, if_pos hc]]
    obtain ⟨hk, c1, c2, c3, c4, c5, c6, c7⟩ := check_iff.1 hc
    have hk' : c.kind = 1 ∨ c.kind = 2 ∨ c.kind = 3 ∨ c.kind = 4 ∨ c.kind = 5 ∨ c.kind = 6 := by omega
    unfold SV.does
    rcases hk' with e | e | e | e | e | e
    · rw [if_pos e]; exact st_tone_reserve H i hi c t ht hc e
    · rw [if_neg (by rw [e]; decide), if_pos e]
      by_cases hj : c.job = (v.progs.length : Int) + 1
      · by_cases he : v.q.submit.2.1 = 0
        · exact st_tone_submit_ok H i hi hv c t ht hc e hj he
        · exact st_tone_submit_full H i hi hv c t ht hc e hj he
      · exact st_tone_submit_no H i hi hv c t ht hc e hj
    · rw [if_neg (by rw [e]; decide), if_neg (by rw [e]; decide), if_pos e]
      exact st_tone_grant H i hi hv c t ht hc e (by rw [e, if_pos (by decide)] at c5; exact c5.1)
    · rw [if_neg (by rw [e]; decide), if_neg (by rw [e]; decide), if_neg (by rw [e]; decide), if_pos e]
      exact st_tone_log H i hi hv c t ht hT hc e (by rw [e, if_pos (by decide)] at c6; exact c6.1.1) (by rw [e, if_pos (by decide)] at c6; exact c6.1.2)
    · rw [if_neg (by rw [e]; decide), if_neg (by rw [e]; decide), if_neg (by rw [e]; decide), if_neg (by rw [e]; decide), if_pos e]
      exact st_tone_expire H i hi hv c t ht hc e
    · rw [if_neg (by rw [e]; decide), if_neg (by rw [e]; decide), if_neg (by rw [e]; decide), if_neg (by rw [e]; decide), if_neg (by rw [e]; decide)]
      exact st_tone_settle H i hi hv c t ht hc e
  · exact st_tone_no H i hi c t ht hc
theorem xapply_yes {i X Y Q Q2 : Nat} {v u : SV} {L : List CV} {pv lv pv2 lv2 : Value} {ll ll2 : List (List ByteArray × TS)} (hil : i < R.length) (h : v.go L 0 = .ok u) (hll : ll.map (·.1) = u.logs)
    (H : St W w (((R ++ [NilT]) ++ xsL Y Q u.q u.res pv u.progs lv ll).set i NilT ++ xsL X Q2 v.q v.res pv2 v.progs lv2 ll2)) :
    Ending.returned (.tuple #[.int .i64 0, .int .i64 0]) = .returned (v.ret L) ∧
      St W ((((w.setCell ⟨X, 0, none⟩ (.int .i64 u.res)).setCell ⟨X, 1, none⟩ (.pointer (some ⟨Q, 0, none⟩))).setCell ⟨X, 2, none⟩ pv).setCell ⟨X, 3, none⟩ lv) (R.set i (XsT X (v.put L))) := by
  unfold SV.ret SV.put
  rw [h]
  refine ⟨rfl, ?_⟩
  rw [List.append_assoc, List.set_append_left _ _ hil, ← List.append_assoc] at H
  have h1 : St W _ (((R.set i NilT ++ [NilT]) ++ xsL Y Q u.q u.res pv u.progs lv ll) ++ (BlkT X (.cells #[.int .i64 u.res, .pointer (some ⟨Q, 0, none⟩), pv, lv] 44) :: _)) := blk4 _ _ _ _ H
  have h2 : St W _ (R.set i NilT ++ xsL X Q u.q u.res pv u.progs lv ll) := h1.sub (perm_x _ _ _ _ _ _)
  have h3 := h2.xsBack hil
  rw [hll] at h3
  exact h3
theorem xapply_no {i X k : Nat} {v : SV} {L : List CV} {A : Thing} (h : v.go L 0 = .error k) (hi : R[i]? = some (XsT X v)) (H : St W w (R ++ [A])) :
    Ending.returned (.tuple #[.int .i64 (k : Nat), .int .i64 170]) = .returned (v.ret L) ∧ St W w (R.set i (XsT X (v.put L))) := by
  unfold SV.ret SV.put
  rw [h]
  refine ⟨rfl, ?_⟩
  rw [things_set_self hi]
  exact H.drop
set_option maxHeartbeats 1000000 in
set_option maxRecDepth 100000 in
theorem st_tapply (H : St W w R) (i : Nat) {X : Nat} {v : SV} (hi : R[i]? = some (XsT X v)) (hv : v.wf) (a : Option Addr) (n cap : Nat) (l : List (CV × TS))
    (hC : ∀ (wx : World) (T : List Thing), St W wx (R ++ T) → ChIn wx a n cap l) :
    Calls Tryz.prog 9 #[.pointer (some ⟨X, 0, none⟩), .slice a n cap] w fun e w' => e = .returned (v.ret (l.map (·.1))) ∧ St W w' (R.set i (XsT X (v.put (l.map (·.1))))) := by
  have hC0 := hC w [] (by simpa using H)
  have hm := hC0.row.max
  have hlen := hid hC0.len
  have hil := lt_of_get hi
  have HL := hid hil
  have HC := hid hC
  have HI := hid hi
  have HV := hid hv
  have HQ := hid (st_tcopy H i hi)
  clear hC0 hC hi hv H hil
  go_enter Tryz.func9, Tryz.ntmps9
  go_wp2_with (go_at_call 28; refine HQ.out.mono ?_; rintro e w1 ⟨Y, rfl, H1⟩; have H1 := hid H1)
  go_wp2_with fail
  go_loopw [7] (fun iv wr => ∃ (k : Nat) (u : SV), k ≤ n ∧ iv = .int .i64 k ∧ Hid (u.wf ∧ v.go (l.map (·.1)) 0 = u.go ((l.map (·.1)).drop k) k ∧ St W wr (R ++ [XsT Y u]))) (fun iv _ => n - (intOf iv).toNat)
  case atStart => exact ⟨0, v, Nat.zero_le _, rfl, hid ⟨HV.out, rfl, H1.out⟩⟩
  case round =>
    obtain ⟨k, u, hk, rfl, HU⟩ := hrel
    by_cases hlt : k < n
    · have hC := HC.out wr _ HU.out.2.2
      obtain ⟨bb, ob, rfl⟩ := hC.row.sm (by omega)
      obtain ⟨x, hx⟩ : ∃ x, cL.nth l k = x := ⟨_, rfl⟩
      have hkl : k < l.length := by rw [hC.len]; exact hlt
      have hget : (l.map (·.1))[k]? = some x.1 := by rw [List.getElem?_map, show l[k]? = some x by rw [← hx]; exact cL.nth_get hkl]; rfl
      obtain ⟨c0, c1, c2, c3, c4, c5, c6, c7, c8, c9⟩ := ch_cells hC.row k hlt x hx
      have hmem : x ∈ l := by rw [← hx]; exact cL.mem_nth hkl
      have hone := hC.one x hmem
      have hT : ∀ (wx : World) (T : List Thing), St W wx ((R ++ [XsT Y u]).set R.length NilT ++ T) → In wx 1 x.2.a x.1.texts.length x.2.c (sL.at_ x.1.texts) := fun wx T h => by
        rw [set_one, List.append_assoc] at h
        exact ((HC.out wx _ h).one x hmem).1
      have HDO := hid (st_tone HU.out.2.2 R.length (X := Y) (v := u) (by simp) HU.out.1 x.1 x.2 hone.1 hT)
      have HX := hid (And.intro hget hone)
      have hk0 : (0 : Int) ≤ k := by omega
      have hk1 : (k : Int) < n := by omega
      unfold CV.f at HDO
      clear hC hget hone hT hmem hx hkl hlt hk
      rcases hdo : u.one x.1 with _ | u1
      · rw [hdo] at HDO
        have HG := hid (HU.out.2.1.trans (go_none HX.out.1 hdo))
        clear hdo
        go_wp2_with fail
        refine HDO.out.mono ?_
        rintro e w3 ⟨u', rfl, H5, -⟩
        rw [set_one] at H5
        have H5 := hid H5
        go_wp2_with fail
        go_ret2
        exact xapply_no HG.out HI.out H5.out
      · rw [hdo] at HDO
        have HG := hid (HU.out.2.1.trans (go_some HX.out.1 hdo))
        have HW1 := hid (one_wf HU.out.1 HX.out.2.2 hdo)
        clear hdo
        go_wp2_with fail
        refine HDO.out.mono ?_
        rintro e w3 ⟨u', rfl, H5, ho⟩
        obtain rfl := ho _ rfl
        rw [set_one] at H5
        have H5 := hid H5
        clear ho
        go_wp2_with fail
        refine ⟨⟨k + 1, _, by omega, by push_cast; rfl, hid ⟨HW1.out, HG.out, H5.out⟩⟩, ?_⟩
        simp only [intOf]; omega
    · have hkk : k = n := by omega
      subst hkk
      have HG : v.go (l.map (·.1)) 0 = .ok u := by
        rw [HU.out.2.1, List.drop_eq_nil_of_le (by rw [List.length_map, hlen.out]; exact Nat.le_refl _)]
        rfl
      obtain ⟨Q, pv, lv, ll, hll, H1⟩ := HU.out.2.2.xs R.length (X := Y) (v := u) (by simp)
      rw [set_one] at H1
      obtain ⟨pa, pc, rfl⟩ := H1.roShape ((R ++ [NilT]).length + 2) (by rw [get_behind]; rfl)
      obtain ⟨la, lc, rfl⟩ := H1.roShape ((R ++ [NilT]).length + 3) (by rw [get_behind]; rfl)
      obtain ⟨Q2, pv2, lv2, ll2, hll2, H2⟩ := H1.xs i (by rw [List.append_assoc]; exact get_l HI.out)
      have b1 : wr.heap[Y]? = some _ := H1.blk ((R ++ [NilT]).length + 0) (by rw [get_behind]; rfl)
      have x0 := cell_blk (i := 0) b1 rfl
      have x1 := cell_blk (i := 1) b1 rfl
      have x2 := cell_blk (i := 2) b1 rfl
      have x3 := cell_blk (i := 3) b1 rfl
      have b2 : wr.heap[X]? = some _ := H2.blk ((((R ++ [NilT]) ++ xsL Y Q u.q u.res (.slice pa u.progs.length pc) u.progs (.slice la ll.length lc) ll).set i NilT).length + 0) (by rw [get_behind]; rfl)
      have y0 := cell_blk (i := 0) b2 rfl
      have y1 := cell_blk (i := 1) b2 rfl
      have y2 := cell_blk (i := 2) b2 rfl
      have y3 := cell_blk (i := 3) b2 rfl
      have f0 := free_blk (i := 0) b2
      have f1 := free_blk (i := 1) b2
      have f2 := free_blk (i := 2) b2
      have f3 := free_blk (i := 3) b2
      have HH2 := hid H2
      have HG := hid HG
      have HLL := hid hll
      clear b1 b2 hlt hk H1 H2 hll hll2
      go_wp2_with fail
      go_ret2
      exact xapply_yes HL.out HG.out HLL.out HH2.out
end
end Go.Proofs.YtmgnekjhlfghaaaGreat
