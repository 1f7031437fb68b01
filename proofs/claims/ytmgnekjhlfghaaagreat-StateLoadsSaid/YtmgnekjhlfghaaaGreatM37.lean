/-
  Merged, in build order: TO TQ Ld6 Ld7.
-/
import Derived.Deep.CutBlock
import Derived.Test.YtmgnekjhlfghaaaGreatM36
import Derived.Test.YtmgnekjhlfghaaaGreatM27
import Derived.Test.YtmgnekjhlfghaaaGreatM32
import Derived.Test.YtmgnekjhlfghaaaGreatM30
/-
  The document's Load: its things.
-/
namespace Go.Proofs.YtmgnekjhlfghaaaGreat
open Go.RowKit QLd
set_option linter.unusedVariables false
set_option linter.unusedSimpArgs false

/-- A log that is owned. -/
def lgO (x : List ByteArray × TS) : Thing := RowT 9 1 (.slice x.2.a x.1.length x.2.c) x.1.length (sL.cells x.1)
/-- Load's things. -/
def LD (r : Nat) (s : RS) (rv : Value) (kr : Nat) (rows : List QR) (X Q : Nat) (n res : Int) (pv : Value) (kp : Nat) (ps : List ByteArray) (lv : Value) (kl : Nat) (ll : List (List ByteArray × TS)) : List Thing :=
  [RqT r s, RowT 51 8 rv kr (qL.cells rows), BlkT X (xO X Q res pv lv), XqT Q ⟨n, []⟩, RowT 9 1 pv kp (sL.cells ps), RowT 41 1 lv kl (tL.cells ll)] ++ ll.map lgO
section
variable {W : Base} {w : World} {R : List Thing}
set_option maxHeartbeats 1000000 in
theorem st_tnew0 (H : St W w R) (n : Int) (h1 : 1 ≤ n) (h2 : n ≤ 8) :
    Calls Tryz.prog 7 #[.int .i64 n] w fun e w' => ∃ X Q, e = .returned (.tuple #[.pointer (some ⟨X, 0, none⟩), .int .i64 0]) ∧ St W w' (R ++ [XqT Q ⟨n, []⟩, BlkT X (xO X Q 0 (.slice none 0 0) (.slice none 0 0))]) := by
  have HQ := hid (st_xnew H n h1 h2)
  go_enter Tryz.func7, Tryz.ntmps7
  go_wp2_with (go_at_call 24; refine HQ.out.mono ?_; rintro e w1 ⟨Q, rfl, H1⟩; have H1 := hid H1)
  go_wp2_with fail
  go_ret2
  have h := H1.out.alloc (xO w1.heap.size Q 0 (.slice none 0 0) (.slice none 0 0))
  rw [List.append_assoc] at h
  exact ⟨w1.heap.size, Q, rfl, h⟩
theorem St.ldStart {r : Nat} {s : RS} {rv : Value} {X Q : Nat} {n : Int} {res : Int} (H : St W w (R ++ [XqT Q ⟨n, []⟩, BlkT X (xO X Q res (.slice none 0 0) (.slice none 0 0)), RqT r s, RowT 51 8 rv 0 (qL.cells [])])) :
    St W w (R ++ LD r s rv 0 [] X Q n res (.slice none 0 0) 0 [] (.slice none 0 0) 0 []) := by
  have h1 := H.new (A := Row1 9 1 (.slice none 0 0) 0 (sL.cells [])) (F := []) (Fr.refl _ _) inferInstance ⟨rfl, World.ownsRow_nil _ _ _ _⟩ (by simp)
  have h2 := h1.new (A := Row1 41 1 (.slice none 0 0) 0 (tL.cells [])) (F := []) (Fr.refl _ _) inferInstance ⟨rfl, World.ownsRow_nil _ _ _ _⟩ (by simp)
  refine h2.perm ?_
  rw [List.append_assoc, List.append_assoc]
  refine List.Perm.append_left _ ?_
  show ([_, _, _, _, _, _] : List Thing).Perm [_, _, _, _, _, _]
  refine (List.perm_append_comm (l₁ := [XqT Q ⟨n, []⟩, BlkT X (xO X Q res (.slice none 0 0) (.slice none 0 0))]) (l₂ := [RqT r s, RowT 51 8 rv 0 (qL.cells [])]) |>.append_right [RowT 9 1 (.slice none 0 0) 0 (sL.cells []), RowT 41 1 (.slice none 0 0) 0 (tL.cells [])]).trans ?_
  exact List.Perm.cons _ (List.Perm.cons _ (List.Perm.swap _ _ _))
theorem St.roEach : ∀ (ll : List (List ByteArray × TS)) {R : List Thing}, St W w (R ++ ll.map lgO) → St W w (R ++ ll.map lgR)
  | [], R, H => H
  | x :: ll, R, H => by
    have h1 := H.ro (R.length + 0) (e := 9) (size := 1) (v := .slice x.2.a x.1.length x.2.c) (n := x.1.length) (xs := sL.cells x.1) (by rw [get_behind]; rfl)
    rw [set_behind] at h1
    have h2 : St W w ((R ++ [lgR x]) ++ ll.map lgO) := by
      rw [List.append_assoc]; exact h1
    have h3 := St.roEach ll h2
    rw [List.append_assoc] at h3
    exact h3
theorem perm_ldEnd {α : Type _} (R M : List α) (a b x q p l y : α) : ((R ++ (a :: b :: x :: q :: p :: l :: M)) ++ [y]).Perm ((R ++ (x :: y :: p :: l :: M)) ++ [a, b, q]) := by
  rw [List.append_assoc, List.append_assoc]
  refine List.Perm.append_left _ ?_
  show (a :: b :: x :: q :: p :: l :: (M ++ [y])).Perm ((x :: y :: p :: l :: M) ++ [a, b, q])
  have h1 : (a :: b :: x :: q :: p :: l :: (M ++ [y])).Perm ([a, b, q] ++ (x :: y :: p :: l :: M)) := by
    show (a :: b :: x :: q :: p :: l :: (M ++ [y])).Perm (a :: b :: q :: x :: y :: p :: l :: M)
    refine List.Perm.cons _ (List.Perm.cons _ ?_)
    refine (List.Perm.swap _ _ _).trans (List.Perm.cons _ (List.Perm.cons _ ?_))
    show (p :: l :: (M ++ [y])).Perm (y :: p :: l :: M)
    exact List.perm_append_comm (l₁ := p :: l :: M) (l₂ := [y])
  exact h1.trans List.perm_append_comm
/-- What was loaded is a state. -/
theorem St.ldEnd {r : Nat} {s : RS} {rv pv lv : Value} {kr : Nat} {rows : List QR} {X Q Q' : Nat} {n res : Int} {ps : List ByteArray} {ll : List (List ByteArray × TS)} {q : QS} {kp kl : Nat} (hp : kp = ps.length) (hl : kl = ll.length)
    (H : St W w ((R ++ [RqT r s, RowT 51 8 rv kr (qL.cells rows), BlkT X (xO X Q' res pv lv), XqT Q ⟨n, []⟩, RowT 9 1 pv kp (sL.cells ps), RowT 41 1 lv kl (tL.cells ll)] ++ ll.map lgO) ++ [XqT Q' q])) : St W w (R ++ [XsT X ⟨q, res, ps, ll.map (·.1)⟩]) := by
  subst hp hl
  have h0 : St W w ((R ++ (RqT r s :: RowT 51 8 rv kr (qL.cells rows) :: BlkT X (xO X Q' res pv lv) :: XqT Q ⟨n, []⟩ :: RowT 9 1 pv ps.length (sL.cells ps) :: RowT 41 1 lv ll.length (tL.cells ll) :: ll.map lgO)) ++ [XqT Q' q]) := by
    have e : R ++ [RqT r s, RowT 51 8 rv kr (qL.cells rows), BlkT X (xO X Q' res pv lv), XqT Q ⟨n, []⟩, RowT 9 1 pv ps.length (sL.cells ps), RowT 41 1 lv ll.length (tL.cells ll)] ++ ll.map lgO = R ++ (RqT r s :: RowT 51 8 rv kr (qL.cells rows) :: BlkT X (xO X Q' res pv lv) :: XqT Q ⟨n, []⟩ :: RowT 9 1 pv ps.length (sL.cells ps) :: RowT 41 1 lv ll.length (tL.cells ll) :: ll.map lgO) := by rw [List.append_assoc]; rfl
    rw [← e]; exact H
  have h1 := h0.sub (perm_ldEnd _ _ _ _ _ _ _ _ _)
  have h2 := h1.ro (R.length + 2) (e := 9) (size := 1) (v := pv) (n := ps.length) (xs := sL.cells ps) (by rw [get_behind]; rfl)
  rw [set_behind] at h2
  have h3 := h2.ro (R.length + 3) (e := 41) (size := 1) (v := lv) (n := ll.length) (xs := tL.cells ll) (by rw [get_behind]; rfl)
  rw [set_behind] at h3
  have h4 : St W w ((R ++ [BlkT X (xO X Q' res pv lv), XqT Q' q, RoT 9 1 pv ps.length (sL.cells ps), RoT 41 1 lv ll.length (tL.cells ll)]) ++ ll.map lgO) := by rw [List.append_assoc]; exact h3
  have h5 := St.roEach ll h4
  rw [List.append_assoc] at h5
  exact St.xsEnd h5
end
/-- What a Load comes to. -/
def XLoadTo (W : Base) (R : List Thing) (o : Option SV) (e : Ending) (w' : World) : Prop :=
  match o with
  | some u => ∃ X, e = .returned (.tuple #[.pointer (some ⟨X, 0, none⟩), .int .i64 0]) ∧ St W w' (R ++ [XsT X u])
  | none => e = .returned (.tuple #[.pointer none, .int .i64 171]) ∧ St W w' R
theorem XLoadTo.no {W : Base} {R : List Thing} {o : Option SV} {w' : World} (h : o = none) (H : St W w' R) : XLoadTo W R o (.returned (.tuple #[.pointer none, .int .i64 171])) w' := by subst h; exact ⟨rfl, H⟩
theorem XLoadTo.yes {W : Base} {R : List Thing} {o : Option SV} {u : SV} {X : Nat} {w' : World} (h : o = some u) (H : St W w' (R ++ [XsT X u])) : XLoadTo W R o (.returned (.tuple #[.pointer (some ⟨X, 0, none⟩), .int .i64 0])) w' := by subst h; exact ⟨X, rfl, H⟩
end Go.Proofs.YtmgnekjhlfghaaaGreat

/-
  The document's Load: the walk.
-/
namespace Go.Proofs.YtmgnekjhlfghaaaGreat
open Go.RowKit QLd
set_option linter.unusedVariables false
set_option linter.unusedSimpArgs false

/-- Load's things, but the logs. -/
def LE (r : Nat) (s : RS) (rv : Value) (kr : Nat) (rows : List QR) (X Q : Nat) (n res : Int) (pv : Value) (kp : Nat) (ps : List ByteArray) (lv : Value) (kl : Nat) (ll : List (List ByteArray × TS)) : List Thing :=
  [RqT r s, RowT 51 8 rv kr (qL.cells rows), BlkT X (xO X Q res pv lv), XqT Q ⟨n, []⟩, RowT 9 1 pv kp (sL.cells ps), RowT 41 1 lv kl (tL.cells ll)]
section
variable {W : Base} {w : World} {R : List Thing}
set_option maxHeartbeats 1000000 in
set_option maxRecDepth 100000 in
theorem st_tload (H : St W w R) (n : Int) (hn1 : 1 ≤ n) (hn8 : n ≤ 8) (b : ByteArray) (hb : b.size ≤ 140737488355328) :
    Calls Tryz.prog 22 #[.int .i64 n, .string b] w (XLoadTo W R (loadS n b)) := by
  have hw0 : RS.wf ⟨b, 0, 0⟩ := ⟨Nat.zero_le _, hb⟩
  obtain ⟨L0, hL0⟩ : ∃ L0, loadS n b = L0 := ⟨_, rfl⟩
  rw [hL0]
  obtain ⟨rs, hrs⟩ : ∃ rs : Nat, (⟨b, 0, 0⟩ : RS).nG 1099511627776 = rs := ⟨_, rfl⟩
  have hrs1 : rs ≤ 1099511627776 := by rw [← hrs]; exact RS.nG_le _ _
  obtain ⟨s1, hs1⟩ : ∃ s1, (⟨b, 0, 0⟩ : RS).nF 1099511627776 = s1 := ⟨_, rfl⟩
  have hw1 : s1.wf := by rw [← hs1]; exact RS.nF_wf hw0 _
  obtain ⟨m, hm⟩ : ∃ m : Nat, s1.nG 8 = m := ⟨_, rfl⟩
  have hm1 : m ≤ 8 := by rw [← hm]; exact RS.nG_le _ _
  obtain ⟨s2, hs2⟩ : ∃ s2, s1.nF 8 = s2 := ⟨_, rfl⟩
  have hw2 : s2.wf := by rw [← hs2]; exact RS.nF_wf hw1 _
  unfold loadS at hL0
  simp only [hrs, hs1, hm, hs2] at hL0
  have HL0 := hid hL0
  have HW := hid (And.intro hw0 (And.intro hw1 hw2))
  have HE := hid (And.intro hrs (And.intro hs1 (And.intro hm hs2)))
  have HNW := hid (st_tnew0 H n hn1 hn8)
  have HN := hid (And.intro hn1 (And.intro hn8 (And.intro hm1 hrs1)))
  obtain ⟨i0, hi0, hz0, hz1, hz2⟩ := info_parts info_gs
  obtain ⟨i1, hi1, hy0, hy1, hy2⟩ := info_parts info_gt
  obtain ⟨i2, hi2, hx0, hx1, hx2⟩ := info_parts info_qrow
  have HI := hid (And.intro hi0 (And.intro hz0 (And.intro hz1 hz2)))
  have HJ := hid (And.intro hi1 (And.intro hy0 (And.intro hy1 hy2)))
  have HG := hid (And.intro hi2 (And.intro hx0 (And.intro hx1 hx2)))
  clear H hL0 hw0 hw1 hw2 hrs hs1 hm hs2 hn1 hn8 hb hi0 hz0 hz1 hz2 hi1 hy0 hy1 hy2 hi2 hx0 hx1 hx2
  go_enter Tryz.func22, Tryz.ntmps22
  go_wp2_with fail
  refine HNW.out.mono ?_
  rintro e w1 ⟨X, Q, rfl, H1⟩
  have H2 := hid (show St W (w1.alloc (.cells #[.string b, .int .i64 0, .int .i64 0, .int .i64 0] 122)) (R ++ [XqT Q ⟨n, []⟩, BlkT X (xO X Q 0 (.slice none 0 0) (.slice none 0 0)), RqT w1.heap.size ⟨b, 0, 0⟩]) from by
    have h := H1.alloc (.cells #[.string b, .int .i64 0, .int .i64 0, .int .i64 0] 122)
    have h2 := St.rqClose h (R ++ [XqT Q ⟨n, []⟩, BlkT X (xO X Q 0 (.slice none 0 0) (.slice none 0 0))]).length (r := w1.heap.size) (s := ⟨b, 0, 0⟩) (z := 0) (by simp [RrT])
    rw [List.set_append_right _ _ (Nat.le_refl _), Nat.sub_self, List.append_assoc] at h2
    exact h2)
  obtain ⟨r, hr⟩ : ∃ r, w1.heap.size = r := ⟨_, rfl⟩
  rw [hr] at H2
  have HR := hid hr
  have hA := hid (st_qNum H2.out (R.length + 2) (r := r) (s := ⟨b, 0, 0⟩) (by rw [get_behind]; rfl) HW.out.1 1099511627776 (by decide))
  rw [HE.out.1, HE.out.2.1] at hA
  clear H1 hr H2 HNW
  go_wp2_with fail
  rw [HR.out]
  refine hA.out.mono ?_
  rintro e w2 ⟨rfl, H2⟩
  rw [set_behind] at H2
  have H2 : St W w2 (R ++ [XqT Q ⟨n, []⟩, BlkT X (xO X Q 0 (.slice none 0 0) (.slice none 0 0)), RqT r s1]) := H2
  have bX := H2.blk (R.length + 1) (by rw [get_behind]; rfl)
  have x0 := cell_blk (i := 0) bX rfl
  have f0 := free_blk (i := 0) bX
  have lX := lt_of_block bX
  have hw1 : IntKind.i64.wrap (rs : Int) = rs := IntWalk.i64_in _ (by omega)
  have hwm : IntKind.i64.wrap (m : Int) = m := IntWalk.i64_in _ (by omega)
  have H3 := hid (show St W (w2.setCell ⟨X, 0, none⟩ (.int .i64 rs)) (R ++ [XqT Q ⟨n, []⟩, BlkT X (xO X Q rs (.slice none 0 0) (.slice none 0 0)), RqT r s1]) from by
    have h := H2.setBlk (R.length + 1) (by rw [get_behind]; rfl) 0 (.int .i64 rs)
    rw [set_behind] at h
    exact h)
  have hB := hid (st_qNum H3.out (R.length + 2) (r := r) (s := s1) (by rw [get_behind]; rfl) HW.out.2.1 8 (by decide))
  rw [HE.out.2.2.1, HE.out.2.2.2] at hB
  clear H2 bX hA hrs1 hm1 H3
  go_wp2_with fail
  refine hB.out.mono ?_
  rintro e w3 ⟨rfl, H3⟩
  rw [set_behind] at H3
  have H4 := hid (show St W (w3.alloc (.cells #[] 51)) (R ++ LD r s2 (.slice (some ⟨w3.heap.size, 0, none⟩) 0 0) 0 [] X Q n rs (.slice none 0 0) 0 [] (.slice none 0 0) 0 []) from by
    have H3 : St W w3 (R ++ [XqT Q ⟨n, []⟩, BlkT X (xO X Q rs (.slice none 0 0) (.slice none 0 0)), RqT r s2]) := H3
    have h := H3.newRow 51 8
    rw [List.append_assoc] at h
    exact St.ldStart h)
  have HRS := hid (show jb (rs : Int) s2 0 = some ⟨s2, [], [], []⟩ from rfl)
  clear x0 f0 lX H3 hB hw1
  go_wp2_with fail
  go_loopw [10, 11] (fun rv iv wr => ∃ (k : Nat) (j : JS) (pv lv : Value) (ll : List (List ByteArray × TS)), k ≤ m ∧ iv = .int .i64 k ∧ Hid (jb (rs : Int) s2 k = some j ∧ j.ok k ∧ ll.map (·.1) = j.ls ∧ St W wr (R ++ LD r j.s rv k j.rows X Q n rs pv k j.ps lv k ll))) (fun _ iv _ => m - (intOf iv).toNat)
  case atStart => exact ⟨0, ⟨s2, [], [], []⟩, _, _, [], Nat.zero_le _, rfl, hid ⟨HRS.out, ⟨HW.out.2.2, rfl, rfl, rfl⟩, rfl, H4.out⟩⟩
  case round =>
    clear H4
    obtain ⟨k, j, pv, lv, ll, hk, rfl, HK⟩ := hrel
    by_cases hkl : k < m
    · have hm1 := HN.out.2.2.1
      have hwk : IntKind.i64.wrap ((k : Int) + 1) = (k : Int) + 1 := IntWalk.i64_in _ (by omega)
      have hk0 : (0 : Int) ≤ k := by omega
      have hk1 : (k : Int) < m := by omega
      have HKL := hid hkl
      obtain ⟨x, hx⟩ : ∃ x, j.s.row ((k : Int) + 1) = x := ⟨_, rfl⟩
      obtain ⟨t1, ht1⟩ : ∃ t1, j.s.rowF = t1 := ⟨_, rfl⟩
      have hws1 := RS.rowF_wf HK.out.2.1.wf
      rw [ht1] at hws1
      obtain ⟨pt, hpt⟩ : ∃ pt, t1.tG 1024 = pt := ⟨_, rfl⟩
      obtain ⟨t2, ht2⟩ : ∃ t2, t1.tF 1024 = t2 := ⟨_, rfl⟩
      have hws2 := RS.tF_wf hws1 1024
      rw [ht2] at hws2
      obtain ⟨t3, ht3⟩ : ∃ t3, t2.lF 32 = t3 := ⟨_, rfl⟩
      obtain ⟨nl, hnl⟩ : ∃ nl : Nat, t2.lG 32 = nl := ⟨_, rfl⟩
      have hl32 := RS.lG_le t2 (m := 32) (by decide)
      rw [hnl] at hl32
      have HX := hid (And.intro hx (And.intro ht1 (And.intro hpt (And.intro ht2 (And.intro ht3 hnl)))))
      have HWS := hid (And.intro hws1 (And.intro hws2 hl32))
      have hRow := hid (st_trow HK.out.2.2.2 (R.length + 0) (r := r) (s := j.s) (by rw [get_behind]; rfl) HK.out.2.1.wf ((k : Int) + 1))
      rw [hx, ht1, set_behind] at hRow
      clear hx ht1 hpt ht2 ht3 hnl hws1 hws2 hl32 hm1 hkl hk
      go_wp2_with fail
      refine hRow.out.mono ?_
      rintro e w4 ⟨rfl, H4⟩
      have H4 : St W w4 (R ++ LD r t1 u10 k j.rows X Q n rs pv k j.ps lv k ll) := H4
      have H5 := hid (H4.alloc (rwO x))
      obtain ⟨xb, hxb⟩ : ∃ xb, w4.heap.size = xb := ⟨_, rfl⟩
      rw [hxb] at H5
      have HXB := hid hxb
      have hT := hid (st_qText H5.out (R.length + 0) (r := r) (s := t1) (by rw [List.append_assoc, get_behind]; rfl) HWS.out.1 1024 (by decide))
      rw [show t1.tG ((1024 : Nat) : Int) = pt from HX.out.2.2.1, show t1.tF ((1024 : Nat) : Int) = t2 from HX.out.2.2.2.1, List.append_assoc, set_behind] at hT
      clear H4 hRow hxb
      unfold QR.f
      go_wp2_with fail
      rw [HXB.out]
      refine hT.out.mono ?_
      rintro e w5 ⟨rfl, H5⟩
      have H5 : St W w5 (R ++ (LD r t2 u10 k j.rows X Q n rs pv k j.ps lv k ll ++ [BlkT xb (rwO x)])) := H5
      have hTx := hid (st_qtexts H5 (R.length + 0) (r := r) (s := t2) (by rw [get_behind]; rfl) HWS.out.2.1)
      rw [HX.out.2.2.2.2.1, HX.out.2.2.2.2.2, set_behind] at hTx
      clear H5 hT HXB
      go_wp2_with fail
      refine hTx.out.mono ?_
      rintro e w6 ⟨la, lc, rfl, H6⟩
      have H7 := hid (show St W w6 (R ++ (LE r (txF t3 nl) u10 k j.rows X Q n rs pv k j.ps lv k ll ++ (ll.map lgO ++ [BlkT xb (rwO x), RowT 9 1 (.slice la nl lc) nl (sL.cells (tx t3 nl))]))) from by
        have h := H6
        rw [List.append_assoc] at h
        refine h.perm (List.Perm.of_eq (congrArg (fun l => R ++ l) ?_))
        show (LD r (txF t3 nl) u10 k j.rows X Q n rs pv k j.ps lv k ll ++ [BlkT xb (rwO x)]) ++ [_] = _
        simp [LD, LE])
      clear H6 hTx
      have hnx : j.next rs k = if (rs : Int) < x.ba ∨ pt.size = 0 ∨ (x.at_ = 0 ∧ 0 < nl) then none else some ⟨txF t3 nl, j.rows ++ [x], j.ps ++ [pt], j.ls ++ [tx t3 nl]⟩ := by
        unfold JS.next
        simp only [HX.out.1, HX.out.2.1, HX.out.2.2.1, HX.out.2.2.2.1, HX.out.2.2.2.2.1, HX.out.2.2.2.2.2]
      have hjn : jb (rs : Int) s2 (k + 1) = j.next rs k := by rw [jb, HK.out.1]; rfl
      have bX := H7.out.blk (R.length + 2) (by rw [get_behind]; rfl)
      have x0 := cell_blk (i := 0) bX rfl
      have lX := lt_of_block bX
      have bB : w6.heap[xb]? = some (rwO x) := H7.out.blkInL (by simp)
      have y2 := cell_blk (i := 2) bB rfl
      have y3 := cell_blk (i := 3) bB rfl
      have lB := lt_of_block bB
      clear bX bB
      by_cases hbad : (rs : Int) < x.ba ∨ pt.size = 0 ∨ (x.at_ = 0 ∧ 0 < nl)
      · rw [if_pos hbad] at hnx
        have hno : L0 = none := by
          have h := HL0.out
          rw [jb_none (hjn.trans hnx) m (by have := HKL.out; omega)] at h
          exact h.symm
        have hno := hid hno
        clear hnx hjn
        by_cases h1 : (rs : Int) < x.ba
        · have hd1 : decide ((rs : Int) < x.ba) = true := decide_eq_true h1
          clear h1 hbad
          go_wp2_with fail
          go_quiet (fail)
          go_wp2_with fail
          exact bodyPost_ret (v := .tuple #[.pointer none, .int .i64 171]) (by simp [results, Tryz.results22, go_sem]) rfl (XLoadTo.no hno.out (H7.out.drewN _).drop)
        · have hd1 : decide ((rs : Int) < x.ba) = false := decide_eq_false h1
          by_cases h2 : pt.size = 0
          · have hs : pt = ⟨#[]⟩ := ba_nil h2
            subst hs
            clear h1 hbad h2
            go_wp2_with fail
            go_quiet (fail)
            go_wp2_with fail
            exact bodyPost_ret (v := .tuple #[.pointer none, .int .i64 171]) (by simp [results, Tryz.results22, go_sem]) rfl (XLoadTo.no hno.out (H7.out.drewN _).drop)
          · have hs := ba_some h2
            have h3 : x.at_ = 0 ∧ 0 < nl := by rcases hbad with h | h | h <;> first | exact h | exact absurd h h1 | exact absurd h h2
            have hd3 : (x.at_ == 0) = true := by rw [beq_iff_eq]; exact h3.1
            have hd4 : decide (0 < nl) = true := decide_eq_true h3.2
            have h04 : 0 < nl := h3.2
            clear h1 hbad h2 h3
            go_wp2_with fail
            go_quiet (fail)
            go_wp2_with fail
            exact bodyPost_ret (v := .tuple #[.pointer none, .int .i64 171]) (by simp [results, Tryz.results22, go_sem]) rfl (XLoadTo.no hno.out (H7.out.drewN _).drop)
      · rw [if_neg hbad] at hnx
        have HNX := hid (And.intro (hjn.trans hnx) hnx)
        have hd1 : decide ((rs : Int) < x.ba) = false := decide_eq_false (fun h => hbad (.inl h))
        have hs := ba_some (fun h => hbad (.inr (.inl h)))
        obtain ⟨fa, hfa⟩ : ∃ fa, (x.at_ == 0) = fa := ⟨_, rfl⟩
        have hd4 : fa = true → decide (0 < nl) = false ∧ ¬ 0 < nl := fun h => have h5 : ¬ 0 < nl := (fun h4 => hbad (.inr (.inr ⟨by rw [h] at hfa; exact eq_of_beq hfa, h4⟩))); ⟨decide_eq_false h5, h5⟩
        clear hnx hjn hbad
        go_upto_region 14 with (fail)
        go_cut [10, 11, 12, 13, 14, 72] from 39 to 96 (fun s10 s11 s12 s13 s14 s72 wx => s72 = .bool false ∧ s10 = u10 ∧ s11 = .int .i64 k ∧ s12 = .pointer (some ⟨xb, 0, none⟩) ∧ s13 = .string pt ∧ s14 = .slice la nl lc ∧ ∃ nq, wx = w6.drewN nq)
        case first =>
          cases fa
          · clear hd4
            go_wp2_with fail
            go_quiet (fail)
            go_wp2_with fail
            go_meet
            exact ⟨rfl, rfl, rfl, rfl, rfl, rfl, _, rfl⟩
          · obtain ⟨hd4, hd5⟩ := hd4 rfl
            go_wp2_with fail
            go_quiet (fail)
            go_wp2_with fail
            go_meet
            exact ⟨rfl, rfl, rfl, rfl, rfl, rfl, _, rfl⟩
        case rest =>
          obtain ⟨rfl, rfl, rfl, rfl, rfl, rfl, nq, rfl⟩ := hcut
          have H8 := hid (H7.out.drewN nq)
          clear hd4 hfa hd1 hs x0 lX y2 y3 lB H7
          generalize w6.drewN nq = w7 at H8 ⊢
          have bB : w7.heap[xb]? = some (rwO x) := H8.out.blkInL (by simp)
          have y0 := cell_blk (i := 0) (v := .int .i64 x.job) bB rfl
          have y1 := cell_blk (i := 1) (v := .int .i64 x.st) bB rfl
          have y2 := cell_blk (i := 2) (v := .int .i64 x.at_) bB rfl
          have y3 := cell_blk (i := 3) (v := .int .i64 x.ba) bB rfl
          have y4 := cell_blk (i := 4) (v := .int .i64 x.node) bB rfl
          have y5 := cell_blk (i := 5) (v := .int .i64 x.life) bB rfl
          have y6 := cell_blk (i := 6) (v := .int .i64 x.code) bB rfl
          have y7 := cell_blk (i := 7) (v := .int .u64 x.bits) bB rfl
          have lB := lt_of_block bB
          clear bB
          have HM := hid (show k + 1 ≤ maxLen ∧ (k + 1) * 64 ≤ 140737488355328 from by have := HN.out.2.2.1; have := HKL.out; unfold maxLen; omega)
          have HM1 := hid (show (k + 1) * 16 ≤ 140737488355328 ∧ (k + 1) * 24 ≤ 140737488355328 from by have := HM.out.2; omega)
          have H9 := hid (show St W (w7.alloc (rwO x)) (R ++ ((LE r (txF t3 nl) u10 k j.rows X Q n rs pv k j.ps lv k ll ++ (ll.map lgO ++ [BlkT xb (rwO x), RowT 9 1 (.slice la nl lc) nl (sL.cells (tx t3 nl))])) ++ [BlkT w7.heap.size (rwO x)])) from by
            have h := H8.out.alloc (rwO x)
            rw [List.append_assoc] at h; exact h)
          clear H8
          go_wp2_with (at_builtin; refine wpAdded H9.out (R.length + 1) rfl (.tmp 73) (.tmp 75) 37 rfl 51 i2 (.agg #[.int .i64 0, .int .i64 0, .int .i64 0, .int .i64 0, .int .i64 0, .int .i64 0, .int .i64 0, .int .u64 0]) 8 64 Tryz.underlying37 HG.out.1 HG.out.2.1 HG.out.2.2.1 HG.out.2.2.2 rfl (by decide) u10 k (qL.cells j.rows) (by rw [get_behind]; rfl) rfl (some ⟨w7.heap.size, 0, none⟩) 1 1 (fun q => ([.int .i64 x.job, .int .i64 x.st, .int .i64 x.at_, .int .i64 x.ba, .int .i64 x.node, .int .i64 x.life, .int .i64 x.code, .int .u64 x.bits] : List Value).getD q undef) rfl (H9.out.blkIn (R.length + ((LE r (txF t3 nl) u10 k j.rows X Q n rs pv k j.ps lv k ll ++ (ll.map lgO ++ [BlkT xb (rwO x), RowT 9 1 (.slice la nl lc) nl (sL.cells (tx t3 nl))])).length + 0)) 8 1 rfl (by decide) (by rw [get_behind, get_behind]; rfl)) ?q1 HM.out.1 HM.out.2 ?_)
          case q1 => exact fun q hq => by have hq : q < 8 := hq; match q, hq with | 0, _ => rfl | 1, _ => rfl | 2, _ => rfl | 3, _ => rfl | 4, _ => rfl | 5, _ => rfl | 6, _ => rfl | 7, _ => rfl
          intro a8 c8 w8 h
          have e8 : qL.cells j.rows ++ [.int .i64 x.job, .int .i64 x.st, .int .i64 x.at_, .int .i64 x.ba, .int .i64 x.node, .int .i64 x.life, .int .i64 x.code, .int .u64 x.bits] = qL.cells (j.rows ++ [x]) := qL.snoc j.rows x
          rw [e8] at h
          have h2 : St W w8 (R ++ (LE r (txF t3 nl) (.slice a8 (k + 1) c8) (k + 1) (j.rows ++ [x]) X Q n rs pv k j.ps lv k ll ++ (List.map lgO ll ++ [BlkT xb (rwO x), RowT 9 1 (.slice la nl lc) nl (sL.cells (tx t3 nl)), BlkT w7.heap.size (rwO x)]))) := h
          have h3 : St W w8 (R ++ (LE r (txF t3 nl) (.slice a8 (k + 1) c8) (k + 1) (j.rows ++ [x]) X Q n rs pv k j.ps lv k ll ++ (ll.map lgO ++ [BlkT xb (rwO x), RowT 9 1 (.slice la nl lc) nl (sL.cells (tx t3 nl))]))) := h2.sub (B := [BlkT w7.heap.size (rwO x)]) (List.Perm.of_eq (by simp))
          have bX := h3.blk (R.length + 2) (by rw [get_behind]; rfl)
          have x2 := cell_blk (i := 2) (v := pv) bX rfl
          have lX := lt_of_block bX
          have H10 := hid (show St W (w8.alloc (.cells #[.string pt] 9)) (R ++ ((LE r (txF t3 nl) (.slice a8 (k + 1) c8) (k + 1) (j.rows ++ [x]) X Q n rs pv k j.ps lv k ll ++ (ll.map lgO ++ [BlkT xb (rwO x), RowT 9 1 (.slice la nl lc) nl (sL.cells (tx t3 nl))])) ++ [BlkT w8.heap.size (.cells #[.string pt] 9)])) from by
            have h := h3.alloc (.cells #[.string pt] 9)
            rw [List.append_assoc] at h; exact h)
          clear h h2 h3 e8 bX y0 y1 y2 y3 y4 y5 y6 y7 lB H9
          go_wp2_with (at_builtin; refine wpAdded H10.out (R.length + 4) rfl (.tmp 81) (.tmp 83) 41 rfl 9 i0 (.string ByteArray.empty) 1 16 Tryz.underlying41 HI.out.1 HI.out.2.1 HI.out.2.2.1 HI.out.2.2.2 rfl (by decide) pv k (sL.cells j.ps) (by rw [get_behind]; rfl) rfl (some ⟨w8.heap.size, 0, none⟩) 1 1 (fun q => ([.string pt] : List Value).getD q undef) rfl (H10.out.blkIn (R.length + ((LE r (txF t3 nl) (.slice a8 (k + 1) c8) (k + 1) (j.rows ++ [x]) X Q n rs pv k j.ps lv k ll ++ (ll.map lgO ++ [BlkT xb (rwO x), RowT 9 1 (.slice la nl lc) nl (sL.cells (tx t3 nl))])).length + 0)) 1 1 rfl (by decide) (by rw [get_behind, get_behind]; rfl)) (fun j hj => by (obtain rfl : j = 0 := by omega); rfl) HM.out.1 HM1.out.1 ?_)
          intro a9 c9 w9 h
          have e9 : sL.cells j.ps ++ [.string pt] = sL.cells (j.ps ++ [pt]) := sL.snoc j.ps pt
          rw [e9] at h
          have h2 : St W w9 (R ++ ([RqT r (txF t3 nl), RowT 51 8 (.slice a8 (k + 1) c8) (k + 1) (qL.cells (j.rows ++ [x])), BlkT X (xO X Q rs pv lv), XqT Q ⟨n, []⟩, RowT 9 1 (.slice a9 (k + 1) c9) (k + 1) (sL.cells (j.ps ++ [pt])), RowT 41 1 lv k (tL.cells ll)] ++ (List.map lgO ll ++ [BlkT xb (rwO x), RowT 9 1 (.slice la nl lc) nl (sL.cells (tx t3 nl)), BlkT w8.heap.size (.cells #[.string pt] 9)]))) := h
          have bX := h2.blk (R.length + 2) (by rw [get_behind]; rfl)
          have x2 := cell_blk (i := 2) (v := pv) bX rfl
          have x3 := cell_blk (i := 3) (v := lv) bX rfl
          have f2 := free_blk (i := 2) bX
          have lX := lt_of_block bX
          have h3 := h2.setBlk (R.length + 2) (by rw [get_behind]; rfl) 2 (.slice a9 (k + 1) c9)
          rw [set_behind] at h3
          have h4 : St W (w9.setCell ⟨X, 2, none⟩ (.slice a9 (k + 1) c9)) (R ++ (LE r (txF t3 nl) (.slice a8 (k + 1) c8) (k + 1) (j.rows ++ [x]) X Q n rs (.slice a9 (k + 1) c9) (k + 1) (j.ps ++ [pt]) lv k ll ++ (List.map lgO ll ++ [BlkT xb (rwO x), RowT 9 1 (.slice la nl lc) nl (sL.cells (tx t3 nl)), BlkT w8.heap.size (.cells #[.string pt] 9)]))) := h3
          have h5 : St W (w9.setCell ⟨X, 2, none⟩ (.slice a9 (k + 1) c9)) (R ++ (LE r (txF t3 nl) (.slice a8 (k + 1) c8) (k + 1) (j.rows ++ [x]) X Q n rs (.slice a9 (k + 1) c9) (k + 1) (j.ps ++ [pt]) lv k ll ++ (ll.map lgO ++ [BlkT xb (rwO x), RowT 9 1 (.slice la nl lc) nl (sL.cells (tx t3 nl))]))) := h4.sub (B := [BlkT w8.heap.size (.cells #[.string pt] 9)]) (List.Perm.of_eq (by simp))
          have H12 := hid (show St W ((w9.setCell ⟨X, 2, none⟩ (.slice a9 (k + 1) c9)).alloc (.cells #[.slice la nl lc] 41)) (R ++ ((LE r (txF t3 nl) (.slice a8 (k + 1) c8) (k + 1) (j.rows ++ [x]) X Q n rs (.slice a9 (k + 1) c9) (k + 1) (j.ps ++ [pt]) lv k ll ++ (ll.map lgO ++ [BlkT xb (rwO x), RowT 9 1 (.slice la nl lc) nl (sL.cells (tx t3 nl))])) ++ [BlkT w9.heap.size (.cells #[.slice la nl lc] 41)])) from by
            have h := h5.allocAt (.cells #[.slice la nl lc] 41) w9.heap.size (by simp [World.setCell])
            rw [List.append_assoc] at h; exact h)
          clear h h2 h3 h4 h5 e9 bX H10
          go_wp2_with (at_builtin; refine wpAdded H12.out (R.length + 5) rfl (.tmp 91) (.tmp 93) 42 rfl 41 i1 (.slice none 0 0) 1 24 Tryz.underlying42 HJ.out.1 HJ.out.2.1 HJ.out.2.2.1 HJ.out.2.2.2 rfl (by decide) lv k (tL.cells ll) (by rw [get_behind]; rfl) rfl (some ⟨w9.heap.size, 0, none⟩) 1 1 (fun q => ([.slice la nl lc] : List Value).getD q undef) rfl (H12.out.blkIn (R.length + ((LE r (txF t3 nl) (.slice a8 (k + 1) c8) (k + 1) (j.rows ++ [x]) X Q n rs (.slice a9 (k + 1) c9) (k + 1) (j.ps ++ [pt]) lv k ll ++ (ll.map lgO ++ [BlkT xb (rwO x), RowT 9 1 (.slice la nl lc) nl (sL.cells (tx t3 nl))])).length + 0)) 1 1 rfl (by decide) (by rw [get_behind, get_behind]; rfl)) (fun j hj => by (obtain rfl : j = 0 := by omega); rfl) HM.out.1 HM1.out.2 ?_)
          intro a10 c10 w10 h
          have e10 : tL.cells ll ++ [.slice la nl lc] = tL.cells (ll ++ [(tx t3 nl, (⟨la, lc⟩ : TS))]) := by
            rw [← tL.snoc]
            show _ = tL.cells ll ++ [Value.slice la (tx t3 nl).length lc]
            rw [tx_len]
          rw [e10] at h
          have h2 : St W w10 (R ++ ([RqT r (txF t3 nl), RowT 51 8 (.slice a8 (k + 1) c8) (k + 1) (qL.cells (j.rows ++ [x])), BlkT X (xO X Q rs (.slice a9 (k + 1) c9) lv), XqT Q ⟨n, []⟩, RowT 9 1 (.slice a9 (k + 1) c9) (k + 1) (sL.cells (j.ps ++ [pt])), RowT 41 1 (.slice a10 (k + 1) c10) (k + 1) (tL.cells (ll ++ [(tx t3 nl, (⟨la, lc⟩ : TS))]))] ++ (List.map lgO ll ++ [BlkT xb (rwO x), RowT 9 1 (.slice la nl lc) nl (sL.cells (tx t3 nl)), BlkT w9.heap.size (.cells #[.slice la nl lc] 41)]))) := h
          have bX := h2.blk (R.length + 2) (by rw [get_behind]; rfl)
          have x3 := cell_blk (i := 3) (v := lv) bX rfl
          have f3 := free_blk (i := 3) bX
          have lX := lt_of_block bX
          have h3 := h2.setBlk (R.length + 2) (by rw [get_behind]; rfl) 3 (.slice a10 (k + 1) c10)
          rw [set_behind] at h3
          have h4 : St W (w10.setCell ⟨X, 3, none⟩ (.slice a10 (k + 1) c10)) (R ++ ([RqT r (txF t3 nl), RowT 51 8 (.slice a8 (k + 1) c8) (k + 1) (qL.cells (j.rows ++ [x])), BlkT X (xO X Q rs (.slice a9 (k + 1) c9) (.slice a10 (k + 1) c10)), XqT Q ⟨n, []⟩, RowT 9 1 (.slice a9 (k + 1) c9) (k + 1) (sL.cells (j.ps ++ [pt])), RowT 41 1 (.slice a10 (k + 1) c10) (k + 1) (tL.cells (ll ++ [(tx t3 nl, (⟨la, lc⟩ : TS))]))] ++ (List.map lgO ll ++ [BlkT xb (rwO x), RowT 9 1 (.slice la nl lc) nl (sL.cells (tx t3 nl)), BlkT w9.heap.size (.cells #[.slice la nl lc] 41)]))) := h3
          have hlg : lgO (tx t3 nl, (⟨la, lc⟩ : TS)) = RowT 9 1 (.slice la nl lc) nl (sL.cells (tx t3 nl)) := by unfold lgO; rw [show (tx t3 nl, (⟨la, lc⟩ : TS)).1.length = nl from tx_len t3 nl]
          have H14 := hid (show St W (w10.setCell ⟨X, 3, none⟩ (.slice a10 (k + 1) c10)) (R ++ LD r (txF t3 nl) (.slice a8 (k + 1) c8) (k + 1) (j.rows ++ [x]) X Q n rs (.slice a9 (k + 1) c9) (k + 1) (j.ps ++ [pt]) (.slice a10 (k + 1) c10) (k + 1) (ll ++ [(tx t3 nl, (⟨la, lc⟩ : TS))])) from by
            refine h4.sub (B := [BlkT xb (rwO x), BlkT w9.heap.size (.cells #[.slice la nl lc] 41)]) ?_
            unfold LD
            rw [List.map_append, List.map_cons, List.map_nil, hlg, List.append_assoc]
            refine List.Perm.append_left _ ?_
            rw [List.append_assoc, List.append_assoc]
            refine List.Perm.append_left _ (List.Perm.append_left _ ?_)
            exact List.Perm.swap _ _ _)
          clear h h2 h3 h4 e10 bX H12 hlg
          go_wp2_with fail
          go_roundw
          case rel => exact ⟨k + 1, _, _, _, _, HKL.out, by push_cast; rfl, hid ⟨HNX.out.1, JS.next_ok HK.out.2.1 HNX.out.2, by rw [List.map_append, HK.out.2.2.1]; rfl, H14.out⟩⟩
          case measure => have := HKL.out; simp [intOf]; omega
    · have hkm : k = m := by omega
      have HL2 := HL0.out
      rw [← hkm, HK.out.1] at HL2
      dsimp only [Option.bind_some] at HL2
      have hEn := st_qEnd HK.out.2.2.2 (R.length + 0) (r := r) (s := j.s) (by rw [get_behind]; rfl)
      obtain ⟨e1, e2, hE⟩ : ∃ e1 e2, j.s.end_ = (e1, e2) := ⟨_, _, rfl⟩
      rw [hE] at hEn HL2
      have HEN := hid hEn
      have hrow : wr.ownsRow 0 51 8 u10 k (qL.cells j.rows) := HK.out.2.2.2.row (R.length + 1) (by rw [get_behind]; rfl)
      obtain ⟨ra, rc, rfl⟩ : ∃ ra rc, u10 = .slice ra k rc := by
        rcases ownsRow_one hrow with ⟨h1, h2, _⟩ | ⟨g, cap, h1, h2, h3⟩
        · exact ⟨none, 0, by rw [h1, h2]⟩
        · exact ⟨_, cap, h1⟩
      have hk1 : ¬ (k : Int) < m := by omega
      have HKM := hid hkm
      clear hE hEn hrow hkl hk hkm
      by_cases he : e1 = 0
      · subst he
        rw [if_neg (fun h => h rfl)] at HL2
        have HL2 := hid HL2
        go_wp2_with fail
        refine HEN.out.mono ?_
        rintro e w5 ⟨z, rfl, H⟩
        have hin : In w5 8 ra k rc (qL.at_ j.rows) := by
          have hr := H.row (R.length + 1) (e := 51) (size := 8) (v := .slice ra k rc) (n := k) (xs := qL.cells j.rows) (by rw [get_behind]; rfl)
          obtain ⟨a', c', e, h2, _⟩ := ownsRow_In hr (qL.at_ j.rows) (fun q hq => qL.get j.rows q (by rw [HK.out.2.1.rows]; exact hq))
          cases e
          exact h2
        by_cases hwf : (⟨n, j.rows⟩ : QS).wf
        · have h7 := HL2.out
          rw [if_pos hwf] at h7
          have h7 := hid h7
          have HQ := hid (st_xload H n HN.out.1 HN.out.2.1 ra k rc j.rows HK.out.2.1.rows hin hwf)
          clear H hin HEN hwf
          go_wp2_with fail
          refine HQ.out.mono ?_
          rintro e w6 ⟨Q', rfl, H6⟩
          rw [List.append_assoc] at H6
          have bX := H6.blk (R.length + 2) (by rw [get_behind]; rfl)
          have x1 := cell_blk (i := 1) bX rfl
          have f1 := free_blk (i := 1) bX
          have lX := lt_of_block bX
          have h8 := H6.setBlk (R.length + 2) (by rw [get_behind]; rfl) 1 (.pointer (some ⟨Q', 0, none⟩))
          rw [set_behind] at h8
          have h8 : St W (w6.setCell ⟨X, 1, none⟩ (.pointer (some ⟨Q', 0, none⟩))) (R ++ (([RqT r j.s, RowT 51 8 (.slice ra k rc) k (qL.cells j.rows), BlkT X (xO X Q' rs pv lv), XqT Q ⟨n, []⟩, RowT 9 1 pv k (sL.cells j.ps), RowT 41 1 lv k (tL.cells ll)] ++ ll.map lgO) ++ [XqT Q' ⟨n, j.rows⟩])) := h8
          rw [← List.append_assoc R, ← List.append_assoc R] at h8
          have H9 := hid (St.ldEnd (Q' := Q') (q := ⟨n, j.rows⟩) (res := rs) (pv := pv) (lv := lv) (ps := j.ps) (ll := ll) (rows := j.rows) (rv := .slice ra k rc) (kr := k) (kp := k) (kl := k) (r := r) (s := j.s) (X := X) (Q := Q) (n := n) HK.out.2.1.ps.symm (by have h := congrArg List.length HK.out.2.2.1; rw [List.length_map, HK.out.2.1.ls] at h; exact h.symm) h8)
          clear H6 bX h8 HQ
          go_wp2_with fail
          refine bodyPost_ret (v := .tuple #[.pointer (some ⟨X, 0, none⟩), .int .i64 0]) (by simp [results, Tryz.results22, go_sem]) rfl (XLoadTo.yes h7.out.symm ?_)
          have h9 := H9.out
          rw [HK.out.2.2.1] at h9
          exact h9
        · have h7 := HL2.out
          rw [if_neg hwf] at h7
          have h7 := hid h7
          have HQ := hid (st_xload_bad H n HN.out.1 HN.out.2.1 ra k rc j.rows HK.out.2.1.rows hin hwf)
          clear H hin HEN hwf
          go_wp2_with fail
          refine HQ.out.mono ?_
          rintro e w6 ⟨rfl, H6⟩
          have H6 := hid H6
          go_wp2_with fail
          exact bodyPost_ret (v := .tuple #[.pointer none, .int .i64 171]) (by simp [results, Tryz.results22, go_sem]) rfl (XLoadTo.no h7.out.symm H6.out.drop)
      · rw [if_pos he] at HL2
        have HL2 := hid HL2
        have he1 : (e1 == 0) = false := by rw [beq_eq_false_iff_ne]; exact he
        have he2 : (e1 != 0) = true := by simp [bne, he1]
        clear he
        go_wp2_with fail
        refine HEN.out.mono ?_
        rintro e w5 ⟨z, rfl, H⟩
        have H := hid H
        go_wp2_with fail
        exact bodyPost_ret (v := .tuple #[.pointer none, .int .i64 171]) (by simp [results, Tryz.results22, go_sem]) rfl (XLoadTo.no HL2.out.symm H.out.drop)
theorem tload_bad (w : World) (n : Int) (b : ByteArray) (h : n < 1 ∨ 8 < n) :
    Calls Tryz.prog 22 #[.int .i64 n, .string b] w fun e w' => e = .returned (.tuple #[.pointer none, .int .i64 1]) ∧ w = w' := by
  have HQ := hid (tnew_bad w n h)
  clear h
  go_enter Tryz.func22, Tryz.ntmps22
  go_wp2_with (go_at_call 7; refine HQ.out.mono ?_; rintro e w1 ⟨rfl, rfl⟩)
  exact bodyPost_ret (v := .tuple #[.pointer none, .int .i64 1]) (by simp [results, Tryz.results22, go_sem]) rfl ⟨rfl, rfl⟩
end
end Go.Proofs.YtmgnekjhlfghaaaGreat

/-
  state: what Load makes of bytes has these bytes: plain.
-/
namespace Go.Proofs.YtmgnekjhlfghaaaGreat
open Go.RowKit
set_option linter.unusedVariables false
set_option linter.unusedSimpArgs false

theorem face_ok {α : Type} {s : RS} {X : Except Int (α × Nat)} (z : α) (hX : ∀ c, X = .error c → ¬ c = 0) (h : (s.face X).e = 0) : ∃ n p, X = .ok (n, p) ∧ s.e = 0 ∧ s.got z X = n ∧ s.face X = ⟨s.b, p, 0⟩ := by
  by_cases he : s.e = 0
  · obtain ⟨b, a, e⟩ := s
    simp only at he
    subst he
    cases X with
    | error c => unfold RS.face at h; rw [if_pos rfl] at h; exact absurd h (hX c rfl)
    | ok x =>
      obtain ⟨n, p⟩ := x
      refine ⟨n, p, rfl, rfl, ?_, ?_⟩
      · unfold RS.got; rw [if_pos rfl]
      · unfold RS.face; rw [if_pos rfl]
  · unfold RS.face at h; rw [if_neg he] at h; exact absurd h he
theorem n_sound {s : RS} {m : Nat} (h : (s.nF m).e = 0) : s.e = 0 ∧ (s.nF m).b = s.b ∧ Rds s.b s.at_ (bl (nf (s.nG m))) (s.nF m).at_ := by
  obtain ⟨n, p, h1, h2, h3, h4⟩ := face_ok (0 : Nat) (fun c hc => by rcases rdMost_err hc with h | h | h <;> omega) h
  have e1 : s.nG m = n := h3
  have e2 : s.nF m = ⟨s.b, p, 0⟩ := h4
  rw [e1, e2]
  exact ⟨h2, rfl, (rdMost_iff.1 h1).1⟩
theorem l_sound {s : RS} {m : Int} (h : (s.lF m).e = 0) : s.e = 0 ∧ (s.lF m).b = s.b ∧ Rds s.b s.at_ (bl (nf (s.lG m))) (s.lF m).at_ := by
  obtain ⟨n, p, h1, h2, h3, h4⟩ := face_ok (0 : Nat) (fun c hc => by rcases rdMost_err hc with h | h | h <;> omega) h
  have e1 : s.lG m = n := h3
  have e2 : s.lF m = ⟨s.b, p, 0⟩ := h4
  rw [e1, e2]
  exact ⟨h2, rfl, (rdMost_iff.1 h1).1⟩
theorem t_sound {s : RS} (hb : s.b.size ≤ 140737488355328) {m : Int} (hm : 0 ≤ m) (h : (s.tF m).e = 0) : s.e = 0 ∧ (s.tF m).b = s.b ∧ Rds s.b s.at_ (bl (tf (s.tG m))) (s.tF m).at_ ∧ ((s.tG m).size : Int) ≤ m := by
  obtain ⟨n, p, h1, h2, h3, h4⟩ := face_ok (⟨#[]⟩ : ByteArray) (fun c hc => rdText_err hc) h
  have e1 : s.tG m = n := h3
  have e2 : s.tF m = ⟨s.b, p, 0⟩ := h4
  rw [e1, e2]
  exact ⟨h2, rfl, (rdText_iff hm (by omega)).1 h1⟩
theorem b_sound {s : RS} (h : s.bF.e = 0) : s.e = 0 ∧ s.bF.b = s.b ∧ Rds s.b s.at_ (bl (bf s.bG)) s.bF.at_ := by
  obtain ⟨n, p, h1, h2, h3, h4⟩ := face_ok (0 : Nat) (fun c hc => rdBits_err hc) h
  have e1 : s.bG = n := h3
  have e2 : s.bF = ⟨s.b, p, 0⟩ := h4
  rw [e1, e2]
  exact ⟨h2, rfl, (rdBits_iff.1 h1).1⟩
theorem tx_sound {s : RS} (hb : s.b.size ≤ 140737488355328) : ∀ k, (txF s k).e = 0 → s.e = 0 ∧ (txF s k).b = s.b ∧ (s.at_ ≤ s.b.size → Rds s.b s.at_ ((tx s k).flatMap fun t => bl (tf t)) (txF s k).at_) ∧ ∀ t, t ∈ tx s k → t.size ≤ 32
  | 0, h => ⟨h, rfl, fun h1 => Rds.nil.2 ⟨rfl, h1⟩, fun t ht => by cases ht⟩
  | k + 1, h => by
    have h0 : ((txF s k).tF 32).e = 0 := h
    have hbk : (txF s k).b = s.b := by
      clear h h0
      induction k with
      | zero => rfl
      | succ k ih => show ((txF s k).tF 32).b = s.b; unfold RS.tF RS.face; split <;> (try split) <;> exact ih
    obtain ⟨h1, h2, h3, h4⟩ := t_sound (by rw [hbk]; exact hb) (by decide) h0
    obtain ⟨g1, g2, g3, g4⟩ := tx_sound hb k h1
    refine ⟨g1, h2.trans hbk, fun hs => ?_, fun t ht => ?_⟩
    · show Rds s.b s.at_ ((tx s k ++ [(txF s k).tG 32]).flatMap fun t => bl (tf t)) ((txF s k).tF 32).at_
      rw [List.flatMap_append]
      rw [hbk] at h3
      exact Rds.append.2 ⟨_, g3 hs, by simpa using h3⟩
    · rcases List.mem_append.1 (show t ∈ tx s k ++ [(txF s k).tG 32] from ht) with h | h
      · exact g4 t h
      · rw [List.mem_singleton.1 h]; omega
theorem row_sound {s : RS} (job : Int) (h : s.rowF.e = 0) : s.e = 0 ∧ s.rowF.b = s.b ∧ Rds s.b s.at_ ((rowN (s.row job)).flatMap (fun n => bl (nf n.toNat)) ++ bl (bf (s.row job).bits.toNat)) s.rowF.at_ := by
  unfold RS.rowF at h
  obtain ⟨a7, b7, r7⟩ := b_sound h
  obtain ⟨a6, b6, r6⟩ := n_sound a7
  obtain ⟨a5, b5, r5⟩ := n_sound a6
  obtain ⟨a4, b4, r4⟩ := n_sound a5
  obtain ⟨a3, b3, r3⟩ := n_sound a4
  obtain ⟨a2, b2, r2⟩ := n_sound a3
  obtain ⟨a1, b1, r1⟩ := n_sound a2
  rw [b6, b5, b4, b3, b2, b1] at r7 b7
  rw [b5, b4, b3, b2, b1] at r6
  rw [b4, b3, b2, b1] at r5
  rw [b3, b2, b1] at r4
  rw [b2, b1] at r3
  rw [b1] at r2
  refine ⟨a1, b7, ?_⟩
  unfold rowN RS.row
  simp only [List.flatMap_cons, List.flatMap_nil, List.append_nil, List.append_assoc, Int.toNat_natCast]
  exact Rds.append.2 ⟨_, r1, Rds.append.2 ⟨_, r2, Rds.append.2 ⟨_, r3, Rds.append.2 ⟨_, r4, Rds.append.2 ⟨_, r5, Rds.append.2 ⟨_, r6, r7⟩⟩⟩⟩⟩⟩
end Go.Proofs.YtmgnekjhlfghaaaGreat

/-
  state: what Load makes of bytes is a state, and has these bytes: plain.
-/
namespace Go.Proofs.YtmgnekjhlfghaaaGreat
open Go.RowKit
set_option linter.unusedVariables false
set_option linter.unusedSimpArgs false

theorem face_b {α : Type} (s : RS) (X : Except Int (α × Nat)) : (s.face X).b = s.b := by unfold RS.face; split <;> (try split) <;> rfl
theorem RS.rowF_b (s : RS) : s.rowF.b = s.b := by
  unfold RS.rowF RS.bF
  rw [face_b]
  simp only [RS.nF_b]
/-- A job's row is what it should be. -/
structure JobsOk (res : Int) (j : JS) (k : Nat) : Prop where
  ok : j.ok k
  pr : ∀ p, p ∈ j.ps → 1 ≤ p.size ∧ p.size ≤ 1024
  lg : ∀ l, l ∈ j.ls → l.length ≤ 32 ∧ ∀ t, t ∈ l → t.size ≤ 32
  bd : ∀ x, x ∈ j.rows → x.ba ≤ res
  at0 : ∀ i, i < k → (qL.nth j.rows i).at_ = 0 → j.ls.getD i [] = []
  bt : ∀ x, x ∈ j.rows → 0 ≤ x.bits ∧ x.bits < 18446744073709551616
def jobsB (j : JS) (k : Nat) : List UInt8 := (List.range k).flatMap fun i => jobB (qL.nth j.rows i) (sL.nth j.ps i) (j.ls.getD i [])
theorem jobsB_snoc {j : JS} {k : Nat} (hr : j.rows.length = k) (hp : j.ps.length = k) (hl : j.ls.length = k) (s : RS) (x : QR) (p : ByteArray) (l : List ByteArray) :
    jobsB ⟨s, j.rows ++ [x], j.ps ++ [p], j.ls ++ [l]⟩ (k + 1) = jobsB j k ++ jobB x p l := by
  unfold jobsB
  rw [List.range_succ, List.flatMap_append]
  simp only [List.flatMap_cons, List.flatMap_nil, List.append_nil]
  congr 1
  · have hc : ∀ i, i ∈ List.range k → jobB (qL.nth (j.rows ++ [x]) i) (sL.nth (j.ps ++ [p]) i) ((j.ls ++ [l]).getD i []) = jobB (qL.nth j.rows i) (sL.nth j.ps i) (j.ls.getD i []) := fun i hi => by
      have hik : i < k := by simpa using hi
      rw [qL.nth_snoc, sL.nth_snoc, if_neg (by omega), if_neg (by omega), List.getD_eq_getElem?_getD, List.getElem?_append_left (by omega), ← List.getD_eq_getElem?_getD]
    simp only [List.flatMap_def]
    rw [List.map_congr_left hc]
  · rw [qL.nth_snoc, sL.nth_snoc, if_pos hr.symm, if_pos hp.symm, List.getD_eq_getElem?_getD, List.getElem?_append_right (by omega), hl, Nat.sub_self]; rfl
theorem jb_sound {res : Int} {s : RS} (hw : s.wf) : ∀ (k : Nat) {j : JS}, jb res s k = some j → j.s.e = 0 → s.e = 0 ∧ j.s.b = s.b ∧ Rds s.b s.at_ (jobsB j k) j.s.at_ ∧ JobsOk res j k
  | 0, j, h, he => by
    cases h
    exact ⟨he, rfl, Rds.nil.2 ⟨rfl, hw.le⟩, ⟨⟨hw, rfl, rfl, rfl⟩, by simp, by simp, by simp, fun i hi => absurd hi (Nat.not_lt_zero _), by simp⟩⟩
  | k + 1, u, h, he => by
    rw [jb] at h
    obtain ⟨j, hj, hn⟩ := Option.bind_eq_some_iff.1 h
    have hn0 := hn
    unfold JS.next at hn
    dsimp only at hn
    split at hn
    · cases hn
    · next hbad =>
      cases hn
      have hee : (txF ((j.s.rowF.tF 1024).lF 32) ((j.s.rowF.tF 1024).lG 32)).e = 0 := he
      have hb1 : j.s.rowF.b = j.s.b := RS.rowF_b _
      have hb2 : (j.s.rowF.tF 1024).b = j.s.b := (face_b _ _).trans hb1
      have hb3 : ((j.s.rowF.tF 1024).lF 32).b = j.s.b := (face_b _ _).trans hb2
      have hjb : j.s.b.size ≤ 140737488355328 := by
        have hjw : ∀ k {j : JS}, jb res s k = some j → j.s.wf := fun k => by
          induction k with
          | zero => intro j h; cases h; exact hw
          | succ k ih =>
            intro j h
            rw [jb] at h
            obtain ⟨j0, h0, h1⟩ := Option.bind_eq_some_iff.1 h
            unfold JS.next at h1
            dsimp only at h1
            split at h1
            · cases h1
            · cases h1
              exact txF_wf (RS.lF_wf (RS.tF_wf (RS.rowF_wf (ih h0)) _) _) _
        exact (hjw k hj).mx
      obtain ⟨t1, t2, t3, t4⟩ := tx_sound (by rw [hb3]; exact hjb) _ hee
      obtain ⟨l1, l2, l3⟩ := l_sound t1
      obtain ⟨p1, p2, p3, p4⟩ := t_sound (by rw [hb1]; exact hjb) (by decide) l1
      obtain ⟨r1, r2, r3⟩ := row_sound ((k : Int) + 1) p1
      obtain ⟨g1, g2, g3, g4⟩ := jb_sound hw k hj r1
      have hw3 : ((j.s.rowF.tF 1024).lF 32).wf := RS.lF_wf (RS.tF_wf (RS.rowF_wf g4.ok.wf) _) _
      have t3 := t3 hw3.le
      have hl32 := (j.s.rowF.tF 1024).lG_le (m := 32) (by decide)
      rw [hb3] at t3 t2
      rw [hb2] at l3
      rw [hb1] at p3
      refine ⟨g1, t2.trans g2, ?_, ⟨JS.next_ok g4.ok hn0, ?_, ?_, ?_, ?_, ?_⟩⟩
      · rw [jobsB_snoc g4.ok.rows g4.ok.ps g4.ok.ls]
        rw [g2] at r3 p3 l3 t3
        refine Rds.append.2 ⟨_, g3, ?_⟩
        unfold jobB
        obtain ⟨m, q1, q2⟩ := Rds.append.1 r3
        refine Rds.append.2 ⟨m, q1, Rds.append.2 ⟨_, ?_, t3⟩⟩
        rw [bl_app, bl_app, tx_len]
        exact Rds.append.2 ⟨_, Rds.append.2 ⟨_, q2, p3⟩, l3⟩
      · intro p hp
        rcases List.mem_append.1 hp with h | h
        · exact g4.pr p h
        · rw [List.mem_singleton.1 h]
          exact ⟨by have : ¬ (j.s.rowF.tG 1024).size = 0 := fun h => hbad (.inr (.inl h)); omega, by omega⟩
      · intro l hl
        rcases List.mem_append.1 hl with h | h
        · exact g4.lg l h
        · rw [List.mem_singleton.1 h]
          exact ⟨by rw [tx_len]; omega, t4⟩
      · intro x hx
        rcases List.mem_append.1 hx with h | h
        · exact g4.bd x h
        · rw [List.mem_singleton.1 h]
          have : ¬ res < (j.s.row ((k : Int) + 1)).ba := fun h => hbad (.inl h)
          omega
      · intro i hi h0
        by_cases hik : i = k
        · subst hik
          rw [qL.nth_snoc, if_pos g4.ok.rows.symm] at h0
          have hz : ¬ 0 < (j.s.rowF.tF 1024).lG 32 := fun h => hbad (.inr (.inr ⟨h0, h⟩))
          rw [List.getD_eq_getElem?_getD, List.getElem?_append_right (by rw [g4.ok.ls]; omega), g4.ok.ls, Nat.sub_self]
          show tx _ _ = []
          rw [show (j.s.rowF.tF 1024).lG 32 = 0 by omega]; rfl
        · have hlt : i < k := by omega
          rw [qL.nth_snoc, if_neg (by rw [g4.ok.rows]; omega)] at h0
          rw [List.getD_eq_getElem?_getD, List.getElem?_append_left (by rw [g4.ok.ls]; omega), ← List.getD_eq_getElem?_getD]
          exact g4.at0 i hlt h0
      · intro x hx
        rcases List.mem_append.1 hx with h | h
        · exact g4.bt x h
        · rw [List.mem_singleton.1 h]
          have := RS.bG_lt ((((((j.s.nF 4).nF 8).nF 1099511627776).nF 9).nF 1099511627776).nF 7)
          unfold RS.row
          dsimp only
          omega
/-- What Load makes of bytes is a state, and has these bytes. -/
theorem loadS_sound {n : Int} {b : ByteArray} (hb : b.size ≤ 140737488355328) {v : SV} (h : loadS n b = some v) : v.wf ∧ v.q.att = n ∧ v.text = b := by
  have hw0 : RS.wf ⟨b, 0, 0⟩ := ⟨Nat.zero_le _, hb⟩
  have hw1 := RS.nF_wf hw0 1099511627776
  have hw2 := RS.nF_wf hw1 8
  unfold loadS at h
  dsimp only at h
  obtain ⟨j, hj, hn⟩ := Option.bind_eq_some_iff.1 h
  split at hn
  · cases hn
  · next hend =>
    split at hn
    · next hq =>
      cases hn
      have he : j.s.e = 0 ∧ ¬ j.s.at_ < j.s.b.size := by
        by_cases h1 : j.s.e = 0
        · refine ⟨h1, fun h2 => hend ?_⟩
          unfold RS.end_
          rw [if_pos ⟨h1, h2⟩]
          show (24 : Int) ≠ 0
          decide
        · refine absurd ?_ hend
          unfold RS.end_ RS.fault
          rw [if_neg (fun h => h1 h.1), if_neg h1]
          exact h1
      obtain ⟨g1, g2, g3, g4⟩ := jb_sound hw2 _ hj he.1
      obtain ⟨m1, m2, m3⟩ := n_sound g1
      obtain ⟨r1, r2, r3⟩ := n_sound m1
      have hres := RS.nG_le (⟨b, 0, 0⟩ : RS) 1099511627776
      rw [r2] at m2 m3
      rw [m2] at g2 g3
      have hlen := g4.ok.rows
      have hv : (⟨⟨n, j.rows⟩, ((⟨b, 0, 0⟩ : RS).nG 1099511627776 : Nat), j.ps, j.ls⟩ : SV).wf :=
        ⟨hq, by rw [g4.ok.ps]; exact hlen.symm, by rw [g4.ok.ls]; exact hlen.symm, ⟨by simp, by simp only; omega⟩, g4.pr, g4.lg, g4.bd, fun k hk h0 => g4.at0 k (by rw [← hlen]; exact hk) h0, g4.bt⟩
      refine ⟨hv, rfl, ?_⟩
      have hA := Rds.append.2 ⟨_, Rds.append.2 ⟨_, r3, m3⟩, g3⟩
      have hbytes : (⟨⟨n, j.rows⟩, ((⟨b, 0, 0⟩ : RS).nG 1099511627776 : Nat), j.ps, j.ls⟩ : SV).bytes = (bl (nf ((⟨b, 0, 0⟩ : RS).nG 1099511627776)) ++ bl (nf (((⟨b, 0, 0⟩ : RS).nF 1099511627776).nG 8))) ++ jobsB j (((⟨b, 0, 0⟩ : RS).nF 1099511627776).nG 8) := by
        unfold SV.bytes SV.head
        rw [bl_app]
        simp only [Int.toNat_natCast]
        rw [g4.ok.ps, hlen]
        rfl
      rw [← hbytes] at hA
      have h1 : (bl b).drop 0 = (⟨⟨n, j.rows⟩, ((⟨b, 0, 0⟩ : RS).nG 1099511627776 : Nat), j.ps, j.ls⟩ : SV).bytes ++ (bl b).drop j.s.at_ := hA.eq
      have h2 : j.s.at_ = b.size := by
        have h3 := hA.le
        have h4 := he.2
        rw [g2] at h4
        simp only at h3 h4
        omega
      rw [h2, List.drop_zero, List.drop_of_length_le (show (bl b).length ≤ b.size from Nat.le_refl _), List.append_nil] at h1
      unfold SV.text
      rw [← h1]
      exact mk_bl b
    · cases hn
end Go.Proofs.YtmgnekjhlfghaaaGreat
