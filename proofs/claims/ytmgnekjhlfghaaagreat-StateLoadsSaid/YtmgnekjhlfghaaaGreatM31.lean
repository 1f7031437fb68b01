/-
  Merged, in build order: TI TJ Ops17 Tmod Place17 TK.
-/
import Derived.Test.YtmgnekjhlfghaaaGreatM28
import Derived.Test.YtmgnekjhlfghaaaGreatM29
import Derived.Test.YtmgnekjhlfghaaaGreatM30
import Derived.Test.YtmgnekjhlfghaaaGreatM25
import Derived.Test.YtmgnekjhlfghaaaGreatM8
/-
  The laws' helper of layer 17: answers: changes.
-/
namespace Go.Proofs.YtmgnekjhlfghaaaGreat
open Go.RowKit
set_option linter.unusedVariables false
set_option linter.unusedSimpArgs false

/-- A change's texts, to be written over. -/
def wrX (x : CV × TS) : Thing := WrT 9 1 x.2.a x.1.texts.length
section
variable {W : Base} {w : World} {R : List Thing}
theorem St.anBox {b S X cn cc : Nat} {on kind n : Int} {ca : Option Addr} {T : List Thing} (h : St W w ((R ++ [BlkT b (prO S X), BlkT (b + 1) (opO on kind n ca cn cc)]) ++ T)) :
    (w.cell? ⟨b, 0, none⟩ = some (.pointer (some ⟨S, 0, none⟩)) ∧ w.cell? ⟨b, 1, none⟩ = some (.pointer (some ⟨X, 0, none⟩)) ∧ w.cell? ⟨b + 1, 1, none⟩ = some (.int .i64 kind) ∧ w.cell? ⟨b + 1, 2, none⟩ = some (.int .i64 n) ∧ w.cell? ⟨b + 1, 3, none⟩ = some (.slice ca cn cc)) ∧ b < w.heap.size ∧ b + 1 < w.heap.size := by
  have b1 := h.drop.blk (R.length + 0) (by rw [get_behind]; rfl)
  have b2 := h.drop.blk (R.length + 1) (by rw [get_behind]; rfl)
  exact ⟨⟨cell_blk (i := 0) b1 rfl, cell_blk (i := 1) b1 rfl, cell_blk (i := 1) b2 rfl, cell_blk (i := 2) b2 rfl, cell_blk (i := 3) b2 rfl⟩, lt_of_block b1, lt_of_block b2⟩
theorem st_tapplyR (H : St W w R) (i : Nat) {X : Nat} {v : SV} (hi : R[i]? = some (XsT X v)) (hv : v.wf) (a : Option Addr) (n cap : Nat) (l : List (CV × TS)) (hC : ∀ (wx : World) (T : List Thing), St W wx (R ++ T) → ChIn wx a n cap l) (u : SV) (hu : v.put (l.map (·.1)) = u) {r : Value} (hr : v.ret (l.map (·.1)) = r) :
    Calls Tryz.prog 9 #[.pointer (some ⟨X, 0, none⟩), .slice a n cap] w fun e w' => e = .returned r ∧ St W w' (R.set i (XsT X u)) := by
  refine (st_tapply H i hi hv a n cap l hC).mono ?_
  rintro e w' ⟨rfl, H'⟩
  rw [hu] at H'
  exact ⟨by rw [← hr], H'⟩
/-- A row of changes of the call's own. -/
theorem St.ownCh {g n : Nat} {l' l : List (CV × TS)} {T : List Thing} (h : St W w ((R ++ (OutT g n l' n :: rws l')) ++ T)) (hn : l.length = n) (hl : l'.map (·.1) = l.map (·.1)) (hb : ∀ x, x ∈ l → 0 ≤ x.1.bits ∧ x.1.bits < 18446744073709551616) : ChIn w (some ⟨g, 0, none⟩) n (n + 2) l' := by
  have hll : l'.length = n := by have := congrArg List.length hl; simp only [List.length_map] at this; omega
  refine ⟨?_, hll, fun x hx => ?_⟩
  · have h1 := h.drop.row (R.length + 0) (e := 80) (size := 10) (n := n) (v := .slice (some ⟨g, 0, none⟩) n (n + 2)) (xs := cL.cells l') (by rw [get_behind]; rfl)
    obtain ⟨a', c', e, h2, _⟩ := ownsRow_In h1 (cL.at_ l') (fun j hj => cL.get l' j (by rw [hll]; exact hj))
    cases e
    exact h2
  · obtain ⟨k, hk⟩ := List.mem_iff_getElem?.1 hx
    have h1 := h.drop.row (R.length + (k + 1)) (e := 9) (size := 1) (n := x.1.texts.length) (v := .slice x.2.a x.1.texts.length x.2.c) (xs := sL.cells x.1.texts) (by
      rw [get_behind]
      show (l'.map RwX)[k]? = _
      rw [List.getElem?_map, hk]; rfl)
    obtain ⟨a', c', e, h2, _⟩ := ownsRow_In h1 (sL.at_ x.1.texts) (fun j hj => sL.get _ j hj)
    cases e
    refine ⟨h2, ?_⟩
    have hm : x.1 ∈ l.map (·.1) := by rw [← hl]; exact List.mem_map_of_mem hx
    obtain ⟨y, hy, e⟩ := List.mem_map.1 hm
    rw [← e]
    exact hb y hy
theorem St.ownWr {g n : Nat} {l' : List (CV × TS)} (h : St W w (R ++ (OutT g n l' n :: rws l'))) : St W w (R ++ (OutT g n l' n :: l'.map wrX)) := by
  refine h.weaken (by simp [rws]) (fun k A A' hk hk' => ?_)
  by_cases hlt : k < R.length
  · rw [List.getElem?_append_left hlt] at hk hk'
    rw [hk] at hk'
    exact .inl (Option.some.inj hk').symm
  · obtain ⟨j, rfl⟩ : ∃ j, k = R.length + j := ⟨k - R.length, by omega⟩
    rw [get_behind] at hk hk'
    match j with
    | 0 =>
      simp at hk hk'
      exact .inl (hk'.symm.trans hk)
    | j + 1 =>
      simp only [rws, List.getElem?_cons_succ, List.getElem?_map] at hk hk'
      cases hx : l'[j]? with
      | none => rw [hx] at hk; cases hk
      | some x =>
        rw [hx] at hk hk'
        simp only [Option.map_some, Option.some.injEq] at hk hk'
        subst hk hk'
        refine .inr ⟨(inferInstance : Loc (own (Wr1 _ _ _ _))), fun F G h => ?_⟩
        obtain ⟨h1, h2, h3⟩ := h
        exact ⟨h1, by rw [h2]; cases x.2.a <;> rfl, _, ownsRow_W h3 _ (fun j hj => sL.get _ j hj)⟩
theorem St.ownTx {g n k : Nat} {l' : List (CV × TS)} {x : CV × TS} (hx : l'[k]? = some x) (h : St W w (R ++ (OutT g n l' n :: l'.map wrX))) : ∃ U, WRow w 9 1 x.2.a x.1.texts.length U :=
  h.wr (R.length + (k + 1)) (by rw [get_behind]; show (l'.map wrX)[k]? = _; rw [List.getElem?_map, hx]; rfl)
theorem St.ownSet {g n k g2 : Nat} {l' : List (CV × TS)} {x : CV × TS} (hx : l'[k]? = some x) (hg : x.2.a = some ⟨g2, 0, none⟩) (h : St W w (R ++ (OutT g n l' n :: l'.map wrX))) (j : Nat) (u : Value) : St W (w.setCell ⟨g2, j, none⟩ u) (R ++ (OutT g n l' n :: l'.map wrX)) :=
  h.setWr (R.length + (k + 1)) (e := 9) (sz := 1) (n := x.1.texts.length) (by rw [get_behind]; show (l'.map wrX)[k]? = _; rw [List.getElem?_map, hx, ← hg]; rfl) j u
theorem St.ownRow {g n : Nat} {l' : List (CV × TS)} (hl : l'.length = n) (h : St W w (R ++ (OutT g n l' n :: l'.map wrX))) : In w 10 (some ⟨g, 0, none⟩) n (n + 2) (cL.at_ l') := by
  have h1 := h.row (R.length + 0) (e := 80) (size := 10) (n := n) (v := .slice (some ⟨g, 0, none⟩) n (n + 2)) (xs := cL.cells l') (by rw [get_behind]; rfl)
  obtain ⟨a', c', e, h2, _⟩ := ownsRow_In h1 (cL.at_ l') (fun j hj => cL.get l' j (by rw [hl]; exact hj))
  cases e
  exact h2
theorem ret_two (v : SV) (l : List CV) : ∃ r1 r2 : Int, v.ret l = .tuple #[.int .i64 r1, .int .i64 r2] := by
  unfold SV.ret
  split
  · exact ⟨_, _, rfl⟩
  · exact ⟨_, _, rfl⟩
end
end Go.Proofs.YtmgnekjhlfghaaaGreat

/-
  The laws' helper of layer 17: answers: changes: the walk; every kind.
-/
namespace Go.Proofs.YtmgnekjhlfghaaaGreat
open Go.RowKit
set_option linter.unusedVariables false
set_option linter.unusedSimpArgs false

set_option maxHeartbeats 1000000 in
set_option maxRecDepth 100000 in
theorem st_answers_apply {w0 w : World} {R : List Thing} (H : St (.of w0) w R) (i j : Nat) (hij : i ≠ j) {S X : Nat} {v : SV} (hi : R[i]? = some (SkT S v)) (hj : R[j]? = some (XsT X v)) (hv : v.wf) (on n : Int) {ca : Option Addr} {cn cc : Nat} {l : List (CV × TS)} (hC0 : ChArg w0 ca cn cc l) :
    Calls Tryz.prog 47 #[.agg #[.pointer (some ⟨S, 0, none⟩), .pointer (some ⟨X, 0, none⟩)], .agg #[.int .i64 on, .int .i64 0, .int .i64 n, .slice ca cn cc]] w fun e w' => e = .returned (.bool true) ∧ St (.of w0) w' ((R.set i (SkT S (v.put (l.map (·.1))))).set j (XsT X (v.put (l.map (·.1))))) := by
  obtain ⟨u, hu⟩ : ∃ u, v.put (l.map (·.1)) = u := ⟨_, rfl⟩
  obtain ⟨r1, r2, hr⟩ := ret_two v (l.map (·.1))
  rw [hu]
  have HU := hid (And.intro hu (And.intro hr (And.intro hv hij)))
  have hlen := hC0.len
  have HC := hid hC0
  have hil := lt_of_get hi
  have hjl := lt_of_get hj
  have HIJ := hid (And.intro hi (And.intro hj (And.intro hil hjl)))
  obtain ⟨b, hb⟩ : ∃ b, w.heap.size = b := ⟨_, rfl⟩
  have H1 := hid (show St (.of w0) ((w.alloc (prO S X)).alloc (opO on 0 n ca cn cc)) (R ++ [BlkT b (prO S X), BlkT (b + 1) (opO on 0 n ca cn cc)]) from by
    have h := (H.alloc (prO S X)).allocAt (opO on 0 n ca cn cc) (w.heap.size + 1) (by simp)
    rw [List.append_assoc, hb] at h
    exact h)
  have HB := hid hb
  have HLEN := hid hlen
  clear hu hr hv hij hC0 hi hj hil hjl H hb hlen
  go_enter Tryz.func47, Tryz.ntmps47
  go_upto_region 1 with (fail)
  rw [HB.out]
  generalize (w.alloc (prO S X)).alloc (opO on 0 n ca cn cc) = w1 at H1 ⊢
  obtain ⟨⟨q0, q1, q2, q3, q4⟩, l1, l2⟩ := St.anBox (T := []) (by rw [List.append_nil]; exact H1.out)
  go_wp2_with fail
  refine (st_copy H1.out HC.out).mono ?_
  rintro e w2 ⟨g, l', rfl, hl', hro, H2⟩
  have HL := hid (And.intro hl' (show l'.length = cn from by have := congrArg List.length hl'; simp only [List.length_map] at this; rw [this, HLEN.out]))
  have HRO := hid hro
  clear q0 q1 q2 q3 q4 l1 l2 hl' hro
  obtain ⟨⟨q0, q1, q2, q3, q4⟩, l1, l2⟩ := H2.anBox
  have H2 := hid H2
  have hbits := hid (fun x (hx : x ∈ l) => (HC.out.ch.one x hx).2)
  go_wp2_with fail
  refine (st_applyR H2.out i (get_l (get_l HIJ.out.1)) HU.out.2.2.1 (some ⟨g, 0, none⟩) cn (cn + 2) l' (fun wx T h => h.ownCh HLEN.out HL.out.1 hbits.out) u (by rw [HL.out.1]; exact HU.out.1) (r := .tuple #[.int .i64 r1, .int .i64 r2]) (by rw [HL.out.1]; exact HU.out.2.1)).mono ?_
  rintro e w3 ⟨rfl, H3⟩
  rw [List.set_append_left _ _ (by rw [List.length_append]; have := HIJ.out.2.2.1; omega), List.set_append_left _ _ HIJ.out.2.2.1] at H3
  clear q0 q1 q2 q3 q4 l1 l2
  obtain ⟨⟨q0, q1, q2, q3, q4⟩, l1, l2⟩ := H3.anBox
  have H3 := hid H3
  go_wp2_with fail
  refine (st_tapplyR H3.out j (get_l (get_l (by rw [List.getElem?_set_ne HU.out.2.2.2]; exact HIJ.out.2.1))) HU.out.2.2.1 ca cn cc l (fun wx T h => HC.out.ch.fr0 h.fr) u HU.out.1 HU.out.2.1).mono ?_
  rintro e w4 ⟨rfl, H4⟩
  rw [List.set_append_left _ _ (by rw [List.length_append, List.length_set]; have := HIJ.out.2.2.2; omega), List.set_append_left _ _ (by rw [List.length_set]; exact HIJ.out.2.2.2)] at H4
  clear q0 q1 q2 q3 q4 l1 l2
  obtain ⟨⟨q0, q1, q2, q3, q4⟩, l1, l2⟩ := H4.anBox
  have hs := same_walk w4 (some ⟨g, 0, none⟩) ca cn cn (cn + 2) cc l' l (St.ownCh (T := []) (by rw [List.append_nil]; exact H4) HLEN.out HL.out.1 hbits.out) (HC.out.ch.fr0 H4.fr)
  have HS := hid hs
  have H4 := hid H4
  clear hs
  go_wp2_with fail
  refine HS.out.mono ?_
  rintro e w5 ⟨⟨z, rfl, hz⟩, hF5⟩
  obtain rfl : z = true := hz.2 HL.out.1
  obtain ⟨R5, hR5⟩ : ∃ R5, ((R.set i (SkT S u)).set j (XsT X u)) ++ [BlkT b (prO S X), BlkT (b + 1) (opO on 0 n ca cn cc)] = R5 := ⟨_, rfl⟩
  have H5 := hid (show St (.of w0) w5 (R5 ++ (OutT g cn l' cn :: l'.map wrX)) from by
    rw [← hR5]
    exact (H4.out.same hF5).ownWr)
  have HR5 := hid (And.intro hR5 (show ∀ x, x ∈ l' → x.1.texts.length ≤ 140737488351232 from fun x hx => by
    have hm : x.1 ∈ l.map (·.1) := by rw [← HL.out.1]; exact List.mem_map_of_mem hx
    obtain ⟨y, hy, e⟩ := List.mem_map.1 hm
    have h1 := (HC.out.one y hy).tx.le
    have h2 := (HC.out.one y hy).tx.cap
    rw [← e]; omega))
  have hcn : cn ≤ 140737488351232 := by have h1 := HC.out.le; have h2 := HC.out.cap; omega
  have HCN := hid hcn
  clear hz hF5 HS H4 H3 H2 q0 q1 q2 q3 q4 l1 l2 hR5 hcn
  go_wp2_with fail
  go_loopw [11] (fun iv wr => ∃ k : Nat, k ≤ cn ∧ iv = .int .i64 k ∧ Hid (St (.of w0) wr (R5 ++ (OutT g cn l' cn :: l'.map wrX)))) (fun iv _ => cn - (intOf iv).toNat)
  case atStart => exact ⟨0, Nat.zero_le _, rfl, H5⟩
  case round =>
    clear H5
    obtain ⟨k, hk, rfl, HK⟩ := hrel
    by_cases hlt : k < cn
    · obtain ⟨x, hx⟩ : ∃ x, l'[k]? = some x := ⟨_, List.getElem?_eq_getElem (by rw [HL.out.2]; exact hlt)⟩
      have hxn : cL.nth l' k = x := by have := cL.nth_get (show k < l'.length by rw [HL.out.2]; exact hlt); rw [hx] at this; exact (Option.some.inj this).symm
      have hmem := List.mem_of_getElem? hx
      have hsm := HR5.out.2 x hmem
      have HCC := hid (show ∀ wx, St (.of w0) wx (R5 ++ (OutT g cn l' cn :: l'.map wrX)) → wx.cell? ⟨g, k * 10 + 9, none⟩ = some (.slice x.2.a x.1.texts.length x.2.c) from fun wx h => by
        have := (ch_cells (h.ownRow HL.out.2) k hlt x hxn).2.2.2.2.2.2.2.2.2
        rw [Nat.zero_add] at this
        exact this)
      have c9 := HCC.out _ HK.out
      obtain ⟨m, hm⟩ : ∃ m : Nat, x.1.texts.length = m := ⟨_, rfl⟩
      rw [hm] at c9 hsm
      have HX := hid (And.intro hx (And.intro hm (And.intro hsm hlt)))
      have hk0 : (0 : Int) ≤ k := by omega
      have hk1 : (k : Int) < cn := by omega
      clear hx hxn hmem hm hsm hlt hk
      go_wp2_with fail
      obtain ⟨wo, hwo⟩ : ∃ wo : World, wo = wr := ⟨_, rfl⟩
      clear hwo
      go_loopw [12] (fun jv wi => ∃ q : Nat, q ≤ m ∧ jv = .int .i64 q ∧ Hid (St (.of w0) wi (R5 ++ (OutT g cn l' cn :: l'.map wrX)))) (fun jv _ => m - (intOf jv).toNat)
      case atStart => exact ⟨0, Nat.zero_le _, rfl, HK⟩
      case round =>
        obtain ⟨q, hq, rfl, HQ⟩ := hrel
        have c9 := HCC.out _ HQ.out
        rw [HX.out.2.1] at c9
        have hm63 := HX.out.2.2.1
        by_cases hql : q < m
        · obtain ⟨U, hU⟩ := HQ.out.ownTx HX.out.1
          rw [HX.out.2.1] at hU
          obtain ⟨g2, hg2⟩ := hU.sm (by omega)
          rw [hg2] at c9 hU
          have u0 := hU.cell q (by omega)
          have u1 := hU.free q
          rw [Nat.zero_add] at u0 u1
          have HQ2 := hid (HQ.out.ownSet HX.out.1 hg2 q (.string ⟨#[111, 118, 101, 114]⟩))
          have HQL := hid (And.intro hql hm63)
          have hq0 : (0 : Int) ≤ q := by omega
          have hq1 : (q : Int) < m := by omega
          clear hU hg2 hql hq hm63
          go_wp2_with fail
          go_roundw
          case rel => have := HQL.out; exact ⟨q + 1, HQL.out.1, by rw [IntWalk.wrap64_in _ (by omega)]; rfl, HQ2⟩
          case measure => have := HQL.out; rw [IntWalk.wrap64_in _ (by omega)]; simp [intOf]; omega
        · have hq1 : ¬ (q : Int) < m := by omega
          clear hql hq hm63
          go_wp2_with fail
          go_roundw
          case rel => have := HX.out.2.2.2; have := HCN.out; exact ⟨k + 1, HX.out.2.2.2, by rw [IntWalk.wrap64_in _ (by omega)]; rfl, HQ⟩
          case measure => have := HX.out.2.2.2; have := HCN.out; rw [IntWalk.wrap64_in _ (by omega)]; simp [intOf]; omega
    · have hk1 : ¬ (k : Int) < cn := by omega
      clear hlt hk
      go_wp2_with fail
      go_ret
      have h := HK.out.drop
      rw [← HR5.out.1] at h
      exact ⟨rfl, h.drop⟩
end Go.Proofs.YtmgnekjhlfghaaaGreat

/-
  A script of layer 17's laws, as it came in.
-/
namespace Go.Proofs.YtmgnekjhlfghaaaGreat
open Go.RowKit Go.ChangeShapes Go.WideShapes Go.ChangeAt
set_option linter.unusedVariables false

structure Op17 where
  on : Int
  kind : Int
  n : Int
  ch : List (CV × TS)
  a : Option Addr
  c : Nat
def oL : Lay Op17 where
  f := fun x => [.int .i64 x.on, .int .i64 x.kind, .int .i64 x.n, .slice x.a x.ch.length x.c]
  d := ⟨0, 0, 0, [], none, 0⟩
  sz := 4
  len := fun _ => rfl
  pos := by decide
  one := fun a u hu => by simp at hu; rcases hu with rfl | rfl | rfl | rfl <;> rfl
/-- A call of a script that came in. -/
structure OneOp (w : World) (x : Op17) : Prop where
  ch : ChArg w x.a x.ch.length x.c x.ch
  nums : ∀ z, z = x.on ∨ z = x.kind ∨ z = x.n → -9223372036854775808 ≤ z ∧ z ≤ 9223372036854775807
/-- A script that came in. -/
structure OpsArg (w : World) (a : Option Addr) (n cap : Nat) (l : List Op17) : Prop where
  row : In w 4 a n cap (oL.at_ l)
  len : l.length = n
  le : n ≤ cap
  cap : cap * 48 ≤ 140737488351232
  one : ∀ x, x ∈ l → OneOp w x
theorem op_cells {w : World} {b o n cap : Nat} {l : List Op17} (h : In w 4 (some ⟨b, o, none⟩) n cap (oL.at_ l)) (k : Nat) (hk : k < n) (x : Op17) (hx : oL.nth l k = x) :
    w.cell? ⟨b, o + k * 4, none⟩ = some (.int .i64 x.on) ∧ w.cell? ⟨b, o + k * 4 + 1, none⟩ = some (.int .i64 x.kind) ∧ w.cell? ⟨b, o + k * 4 + 2, none⟩ = some (.int .i64 x.n) ∧ w.cell? ⟨b, o + k * 4 + 3, none⟩ = some (.slice x.a x.ch.length x.c) := by
  have hc : ∀ q, q < 4 → w.cell? ⟨b, o + k * 4 + q, none⟩ = some ((oL.f x).getD q undef) := fun q hq => by
    have h1 := h.cell b o rfl (k * 4 + q) (by omega)
    rw [show k * 4 + q = k * oL.sz + q from rfl, oL.at_add _ _ q hq, hx] at h1
    rw [Nat.add_assoc]; exact h1
  exact ⟨hc 0 (by decide), hc 1 (by decide), hc 2 (by decide), hc 3 (by decide)⟩

theorem flat_op17 : flat Tryz.prog 6 109 = some [.int .i64, .int .i64, .int .i64, .other 22] := by kernel_rfl
theorem op17_bytes : Tryz.prog.bytesOf 109 = 48 := by kernel_rfl
section
variable {H : Type} {enc : TypeId × Value → H} {w : World} {base : Nat} {spare : Nat → Bool} {held : Bool}
theorem oneOp_arg {c : Nat → Value} (hsp : ∀ b, spare b = true)
    (h : ∀ (q : Nat) (L : Leaf), ([.int .i64, .int .i64, .int .i64, .other 22] : List Leaf)[q]? = some L → L.ok enc Tryz.prog w reachBytes base spare held (c q)) :
    ∃ x : Op17, OneOp w x ∧ ∀ q, q < 4 → c q = (oL.f x).getD q undef := by
  obtain ⟨n0, e0, l0, u0⟩ := i64_ok (h 0 _ rfl)
  obtain ⟨n1, e1, l1, u1⟩ := i64_ok (h 1 _ rfl)
  obtain ⟨n2, e2, l2, u2⟩ := i64_ok (h 2 _ rfl)
  obtain ⟨a, n, cap, l, e3, hl⟩ := ch_arg hsp (h 3 _ rfl)
  have hn := hl.len
  subst hn
  refine ⟨⟨n0, n1, n2, l, a, cap⟩, ⟨hl, ?_⟩, ?_⟩
  · rintro z (rfl | rfl | rfl)
    · exact ⟨l0, u0⟩
    · exact ⟨l1, u1⟩
    · exact ⟨l2, u2⟩
  · intro q hq
    match q, hq with
    | 0, _ => exact e0
    | 1, _ => exact e1
    | 2, _ => exact e2
    | 3, _ => exact e3
theorem ops17_arg {v : Value} (hsp : ∀ b, spare b = true) (h : (Leaf.other 61).ok enc Tryz.prog w reachBytes base spare held v) :
    ∃ (a : Option Addr) (n cap : Nat) (l : List Op17), v = .slice a n cap ∧ OpsArg w a n cap l := by
  obtain ⟨a, len, cap, V, rfl, hS, hL⟩ := in_flat Tryz.underlying61 flat_op17 (by decide) hsp h
  rw [op17_bytes] at hS
  have hone : ∀ i, i < len → ∃ x : Op17, OneOp w x ∧ ∀ q, q < 4 → V (i * 4 + q) = (oL.f x).getD q undef := fun i hi => oneOp_arg (c := fun q => V (i * 4 + q)) hsp (fun q L hq => hL i hi q L hq)
  let g : Nat → Op17 := fun i => if h : i < len then Classical.choose (hone i h) else oL.d
  have hg : ∀ i, i < len → OneOp w (g i) ∧ ∀ q, q < 4 → V (i * 4 + q) = (oL.f (g i)).getD q undef := fun i hi => by
    have := Classical.choose_spec (hone i hi)
    simpa only [g, dif_pos hi] using this
  have hlen : ((List.range len).map g).length = len := by simp
  refine ⟨a, len, cap, (List.range len).map g, rfl, ?_, hlen, hS.le, hS.rch, fun x hx => ?_⟩
  · refine ⟨hS.le, hS.mx, hS.sm, fun b off e j hj => ?_⟩
    rw [hS.cell b off e j hj]
    have hk : j / 4 < len := by omega
    have hq : j % 4 < 4 := Nat.mod_lt _ (by decide)
    have e1 : V j = (oL.f (g (j / 4))).getD (j % 4) undef := by
      have := (hg (j / 4) hk).2 (j % 4) hq
      rwa [show j / 4 * 4 + j % 4 = j by omega] at this
    have e2 : oL.at_ ((List.range len).map g) j = (oL.f (g (j / 4))).getD (j % 4) undef := by
      have := oL.at_add ((List.range len).map g) (j / 4) (j % 4) hq
      rw [show j / 4 * oL.sz + j % 4 = j by show j / 4 * 4 + j % 4 = j; omega] at this
      rw [this]
      simp [Lay.nth, hk]
    rw [e1, e2]
  · obtain ⟨i, hi, rfl⟩ := List.mem_map.1 hx
    exact (hg i (by simpa using hi)).1
end
end Go.Proofs.YtmgnekjhlfghaaaGreat

/-
  The remainder of a number below nought. Of no program.
-/
namespace Go.Proofs.YtmgnekjhlfghaaaGreat
open Go.RowKit
set_option linter.unusedVariables false

theorem tmod_of_neg4 (n m : Int) (hn : n < 0) (hm : 1 ≤ m) : n.tmod m = if n % m = 0 then 0 else n % m - m := by
  have key : n.tmod m = - ((-n) % m) := by
    rw [← Int.tmod_eq_emod_of_nonneg (by omega : 0 ≤ -n), Int.neg_tmod]; simp
  rw [key]
  have h1 := Int.mul_ediv_add_emod n m
  have h2 := Int.mul_ediv_add_emod (-n) m
  have e1 : 0 ≤ (-n) % m := Int.emod_nonneg _ (by omega)
  have e2 : (-n) % m < m := Int.emod_lt_of_pos _ (by omega)
  have e3 : 0 ≤ n % m := Int.emod_nonneg _ (by omega)
  have e4 : n % m < m := Int.emod_lt_of_pos _ (by omega)
  have hd : (n % m + (-n) % m) % m = 0 := by
    rw [← Int.add_emod, Int.add_right_neg, Int.zero_emod]
  by_cases hz : n % m = 0
  · rw [if_pos hz]; rw [hz] at hd; simp at hd; omega
  · rw [if_neg hz]
    have : n % m + (-n) % m < 2 * m := by omega
    by_cases hlt : n % m + (-n) % m < m
    · rw [Int.emod_eq_of_lt (by omega) hlt] at hd; omega
    · have : (n % m + (-n) % m - m) % m = 0 := by rw [Int.sub_emod, hd]; simp
      rw [Int.emod_eq_of_lt (by omega) (by omega)] at this; omega

end Go.Proofs.YtmgnekjhlfghaaaGreat

/-
  The laws' helper 'place' of layer 17.
-/
namespace Go.Proofs.YtmgnekjhlfghaaaGreat
open Go.RowKit
set_option linter.unusedVariables false

theorem place17 (n m : Int) (w : World) (h1 : -9223372036854775808 ≤ n) (h2 : n ≤ 9223372036854775807) (h3 : 1 ≤ m) (h4 : m ≤ 1000000) :
    Calls Tryz.prog 46 #[.int .i64 n, .int .i64 m] w fun e w' => e = .returned (.int .i64 (n % m)) ∧ w = w' := by
  have hm : (m == 0) = false := by simp; omega
  by_cases hn : 0 ≤ n
  · have e1 : 0 ≤ n % m := Int.emod_nonneg _ (by omega)
    have hp : ¬ n % m < 0 := by omega
    go_enter Tryz.func46, Tryz.ntmps46
    go_wp2
    go_ret
    exact ⟨rfl, rfl⟩
  · have ht := tmod_of_neg4 n m (by omega) h3
    have e3 : 0 ≤ n % m := Int.emod_nonneg _ (by omega)
    have e4 : n % m < m := Int.emod_lt_of_pos _ (by omega)
    by_cases hz : n % m = 0
    · rw [if_pos hz] at ht
      have b1 : 0 ≤ n.tmod m := by omega
      have b2 : n.tmod m ≤ 0 := by omega
      have b3 : ¬ n.tmod m < 0 := by omega
      have H := hid (ht.trans hz.symm)
      clear ht hz
      go_enter Tryz.func46, Tryz.ntmps46
      go_wp2
      go_ret
      exact ⟨by rw [← H.out]; rfl, rfl⟩
    · rw [if_neg hz] at ht
      have b1 : n.tmod m < 0 := by omega
      have b2 : -m < n.tmod m := by omega
      have H := hid (show n.tmod m + m = n % m by omega)
      clear ht hz
      go_enter Tryz.func46, Tryz.ntmps46
      go_wp2
      go_ret
      exact ⟨by rw [← H.out]; rfl, rfl⟩

end Go.Proofs.YtmgnekjhlfghaaaGreat

/-
  The laws' helper of layer 17: answers, whatever the call; pairs as a list.
-/
namespace Go.Proofs.YtmgnekjhlfghaaaGreat
open Go.RowKit
set_option linter.unusedVariables false
set_option linter.unusedSimpArgs false

theorem st_answers {w0 w : World} {R : List Thing} (H : St (.of w0) w R) (i j : Nat) (hij : i ≠ j) {S X : Nat} {v : SV} (hi : R[i]? = some (SkT S v)) (hj : R[j]? = some (XsT X v)) (hv : v.wf) {x : Op17} (hx : OneOp w0 x) :
    Calls Tryz.prog 47 #[.agg #[.pointer (some ⟨S, 0, none⟩), .pointer (some ⟨X, 0, none⟩)], .agg #[.int .i64 x.on, .int .i64 x.kind, .int .i64 x.n, .slice x.a x.ch.length x.c]] w fun e w' => ∃ v' : SV, e = .returned (.bool true) ∧ (v'.wf ∧ v'.q.att = v.q.att) ∧ St (.of w0) w' ((R.set i (SkT S v')).set j (XsT X v')) := by
  have hself : ∀ w', St (.of w0) w' R → St (.of w0) w' ((R.set i (SkT S v)).set j (XsT X v)) := fun w' h => by
    rw [things_set_self hi, things_set_self hj]; exact h
  obtain ⟨on, kind, n, ch, a, c⟩ := x
  by_cases k0 : kind = 0
  · subst k0
    refine (st_answers_apply H i j hij hi hj hv on n hx.ch).mono ?_
    rintro e w' ⟨rfl, h⟩
    exact ⟨_, rfl, ⟨put_wf hv (fun c hc => by
      obtain ⟨y, hy, rfl⟩ := List.mem_map.1 hc
      exact (hx.ch.ch.one y hy).2), put_att _ _⟩, h⟩
  by_cases k1 : kind = 1
  · subst k1
    refine (st_answers_bytes H i j hi hj hv on n a ch.length c).mono ?_
    rintro e w' ⟨rfl, h⟩
    exact ⟨v, rfl, ⟨hv, rfl⟩, hself _ h⟩
  by_cases k3 : kind = 3
  · subst k3
    refine (st_answers_find H i j hi hj hv on n a ch.length c).mono ?_
    rintro e w' ⟨rfl, h⟩
    exact ⟨v, rfl, ⟨hv, rfl⟩, hself _ h⟩
  refine (st_answers_tells H i j hi hj hv on kind n a ch.length c (beq_eq_false_iff_ne.2 k0) (beq_eq_false_iff_ne.2 k1) (beq_eq_false_iff_ne.2 k3)).mono ?_
  rintro e w' ⟨rfl, h⟩
  exact ⟨v, rfl, ⟨hv, rfl⟩, hself _ h⟩

/-- A state, and the document's. -/
structure P3 where
  S : Nat
  X : Nat
  v : SV
def things2 : List P3 → List Thing
  | [] => []
  | p :: r => SkT p.S p.v :: XsT p.X p.v :: things2 r
def cells2 : List P3 → List Value
  | [] => []
  | p :: r => .pointer (some ⟨p.S, 0, none⟩) :: .pointer (some ⟨p.X, 0, none⟩) :: cells2 r
theorem things2_get {ps : List P3} {k : Nat} {p : P3} (h : ps[k]? = some p) (A : Thing) (T : List Thing) : ((A :: things2 ps) ++ T)[2 * k + 1]? = some (SkT p.S p.v) ∧ ((A :: things2 ps) ++ T)[2 * k + 2]? = some (XsT p.X p.v) := by
  induction ps generalizing k A with
  | nil => simp at h
  | cons q r ih =>
    match k with
    | 0 => simp at h; subst h; exact ⟨rfl, rfl⟩
    | k + 1 =>
      have := ih (k := k) (by simpa using h) A
      exact ⟨this.1, this.2⟩
theorem things2_set (ps : List P3) (k : Nat) (hk : k < ps.length) (p : P3) (A : Thing) (T : List Thing) : (((A :: things2 ps) ++ T).set (2 * k + 1) (SkT p.S p.v)).set (2 * k + 2) (XsT p.X p.v) = (A :: things2 (ps.set k p)) ++ T := by
  induction ps generalizing k A with
  | nil => simp at hk
  | cons q r ih =>
    match k with
    | 0 => rfl
    | k + 1 =>
      have := ih k (by simpa using hk) A
      have h2 := List.tail_eq_of_cons_eq this
      show A :: SkT q.S q.v :: XsT q.X q.v :: _ = A :: SkT q.S q.v :: XsT q.X q.v :: _
      refine congrArg (fun l => A :: SkT q.S q.v :: XsT q.X q.v :: l) ?_
      exact h2
theorem things2_snoc (ps : List P3) (p : P3) : things2 ps ++ [SkT p.S p.v, XsT p.X p.v] = things2 (ps ++ [p]) := by
  induction ps with
  | nil => rfl
  | cons q r ih => exact congrArg (fun l => SkT q.S q.v :: XsT q.X q.v :: l) ih
theorem cells2_get {ps : List P3} {k : Nat} {p : P3} (h : ps[k]? = some p) : (cells2 ps)[k * 2]? = some (.pointer (some ⟨p.S, 0, none⟩)) ∧ (cells2 ps)[k * 2 + 1]? = some (.pointer (some ⟨p.X, 0, none⟩)) := by
  induction ps generalizing k with
  | nil => simp at h
  | cons q r ih =>
    match k with
    | 0 => simp at h; subst h; exact ⟨rfl, rfl⟩
    | k + 1 =>
      have := ih (k := k) (by simpa using h)
      rw [show (k + 1) * 2 = k * 2 + 1 + 1 by omega]
      exact this
theorem cells2_snoc (ps : List P3) (p : P3) : cells2 ps ++ [.pointer (some ⟨p.S, 0, none⟩), .pointer (some ⟨p.X, 0, none⟩)] = cells2 (ps ++ [p]) := by
  induction ps with
  | nil => rfl
  | cons q r ih => exact congrArg (fun l => Value.pointer (some ⟨q.S, 0, none⟩) :: .pointer (some ⟨q.X, 0, none⟩) :: l) ih
theorem cells2_set (ps : List P3) (k : Nat) (p : P3) : ((cells2 ps).set (k * 2) (.pointer (some ⟨p.S, 0, none⟩))).set (k * 2 + 1) (.pointer (some ⟨p.X, 0, none⟩)) = cells2 (ps.set k p) := by
  induction ps generalizing k with
  | nil => rfl
  | cons q r ih =>
    match k with
    | 0 => rfl
    | k + 1 =>
      rw [show (k + 1) * 2 = k * 2 + 1 + 1 by omega]
      exact congrArg (fun l => Value.pointer (some ⟨q.S, 0, none⟩) :: .pointer (some ⟨q.X, 0, none⟩) :: l) (ih k)
theorem cells2_len (ps : List P3) : (cells2 ps).length = ps.length * 2 := by
  induction ps with
  | nil => rfl
  | cons q r ih => simp only [cells2, List.length_cons, ih]; omega
theorem info_pair17 : (Tryz.prog.info? 64).map (fun i => (i.zero, i.size, i.bytes)) = some (some (.agg #[.pointer none, .pointer none]), 2, 16) := by kernel_rfl
/-- What played's loop keeps. -/
structure PInv2 (w0 wr : World) (n : Int) (v : Value) (ps : List P3) : Prop where
  st : St (.of w0) wr (RowT 64 2 v ps.length (cells2 ps) :: things2 ps)
  ok : ∀ p, p ∈ ps → p.v.wf ∧ p.v.q.att = n
  l1 : 1 ≤ ps.length
  l2 : ps.length ≤ 5
end Go.Proofs.YtmgnekjhlfghaaaGreat
