/-
  Merged, in build order: Q5 Q6 Q7 QWf QR.
-/
import Derived.IntWalk
import Derived.Test.YtmgnekjhlfghaaaGreatM5
/-
  Open, New, Submit of the package queue; what may be of a queue.
-/
namespace Go.Proofs.YtmgnekjhlfghaaaGreat
open Go.RowKit
set_option linter.unusedVariables false
set_option linter.unusedSimpArgs false

/-- What may be. -/
structure QS.wf (q : QS) : Prop where
  a1 : 1 ≤ q.att
  a2 : q.att ≤ 8
  n : q.rows.length ≤ 8
  ok : ∀ k, k < q.rows.length → (qL.nth q.rows k).may q.att (k + 1) = true
  ba : ∀ i j, i < j → j < q.rows.length → 0 < (qL.nth q.rows j).ba → (qL.nth q.rows i).ba ≠ (qL.nth q.rows j).ba

theorem may_facts {att : Int} {r : QR} {j : Int} (h : r.may att j = true) : r.job = j ∧ 0 ≤ r.at_ ∧ r.at_ ≤ att ∧ 0 ≤ r.ba ∧ r.ba ≤ 1099511627776 ∧ (0 < r.ba ↔ 0 < r.at_) ∧ r.kb = true ∧ r.kc att = true := by
  unfold QR.may QR.ka inB at h
  simp only [Bool.and_eq_true, decide_eq_true_eq, beq_iff_eq, decide_eq_decide] at h
  obtain ⟨⟨⟨⟨⟨h1, h2, h3⟩, h4, h5⟩, h6⟩, h7⟩, h8⟩ := h
  exact ⟨h1, h2, h3, h4, h5, h6, h7, h8⟩

def opn (att : Int) (l : List QR) : Nat → Int × Int
  | 0 => (0, 0)
  | k + 1 => if (qL.nth l k).st = 1 ∨ (qL.nth l k).st = 2 then ((opn att l k).1 + 1, (opn att l k).2 + (att - (qL.nth l k).at_)) else opn att l k
def QS.opened (q : QS) : Int × Int := opn q.att q.rows q.rows.length

theorem opn_bd {q : QS} (hw : q.wf) (k : Nat) (hk : k ≤ q.rows.length) : 0 ≤ (opn q.att q.rows k).1 ∧ (opn q.att q.rows k).1 ≤ k ∧ 0 ≤ (opn q.att q.rows k).2 ∧ (opn q.att q.rows k).2 ≤ 8 * k := by
  induction k with
  | zero => simp [opn]
  | succ k ih =>
    obtain ⟨h1, h2, h3, h4⟩ := ih (by omega)
    have hm := may_facts (hw.ok k (by omega))
    have ha := hw.a2
    unfold opn
    split
    · simp only []; omega
    · omega

section
variable {W : Base} {w : World} {R : List Thing}

theorem st_qnew (H : St W w R) (n : Int) (h1 : 1 ≤ n) (h2 : n ≤ 8) :
    Calls Tryz.prog 23 #[.int .i64 n] w fun e w' => ∃ Q, e = .returned (.tuple #[.pointer (some ⟨Q, 0, none⟩), .int .i64 0]) ∧ St W w' (R ++ [QkT Q ⟨n, []⟩]) := by
  have g1 : ¬ n < 1 := by omega
  have g2 : ¬ 8 < n := by omega
  have HH := hid H
  clear H
  go_enter Tryz.func23, Tryz.ntmps23
  go_wp2
  go_ret2
  exact ⟨_, rfl, HH.out.new (A := Qk1 w.heap.size ⟨n, []⟩) (F := [w.heap.size]) ((Fr.refl _ _).alloc _) inferInstance ⟨.slice none 0 0, rfl, blk_alloc_at _ _ _ rfl, World.ownsRow_nil _ _ _ _⟩ (by simp)⟩

def QS.submit (q : QS) : Int × Int × QS := if 8 ≤ q.rows.length then (0, 110, q) else ((q.rows.length : Int) + 1, 0, { q with rows := q.rows ++ [QR.mk (q.rows.length + 1) 1 0 0 0 0 0 0] })

set_option maxHeartbeats 1600000 in
set_option maxRecDepth 100000 in
theorem st_submit (H : St W w R) (i : Nat) {Q : Nat} {q : QS} (hi : R[i]? = some (QkT Q q)) (hl : q.rows.length ≤ 8) :
    Calls Tryz.prog 119 #[.pointer (some ⟨Q, 0, none⟩)] w fun e w' => e = .returned (.tuple #[.int .i64 q.submit.1, .int .i64 q.submit.2.1]) ∧ St W w' (R.set i (QkT Q q.submit.2.2)) := by
  have HS := hid (H.set_self hi)
  obtain ⟨F, ⟨rv, rfl, g1, g2⟩, _, hback⟩ := H.at i hi
  obtain ⟨a, c, rfl, _, _, _⟩ := own_slice g2
  have c1 := cell_blk (i := 1) g1 rfl
  have f1 : w.frozen? ⟨Q, 1, none⟩ = false := free_blk g1
  by_cases h8 : 8 ≤ q.rows.length
  · have e : q.submit = (0, 110, q) := by unfold QS.submit; rw [if_pos h8]
    rw [e]
    have h8' : (8 : Int) ≤ q.rows.length := by omega
    clear e g1 g2 hback H hi
    go_enter Tryz.func119, Tryz.ntmps119
    go_wp2
    go_ret2
    exact ⟨rfl, HS.out⟩
  have e : q.submit = ((q.rows.length : Int) + 1, 0, { q with rows := q.rows ++ [QR.mk (q.rows.length + 1) 1 0 0 0 0 0 0] }) := by unfold QS.submit; rw [if_neg h8]
  rw [e]
  have h8' : ¬ (8 : Int) ≤ q.rows.length := by omega
  obtain ⟨i0, hi0, hz0, hz1, hz2⟩ := info_parts info_qrow
  have HI := hid (And.intro hi0 (And.intro hz0 (And.intro hz1 hz2)))
  have hQo := ownsRow_ne g2 g1 (by decide)
  have HG := hid (And.intro g1 (And.intro g2 (And.intro hback hQo)))
  have hQ := lt_of_block g1
  clear e g1 g2 hback H hi HS hi0 hz0 hz1 hz2 hQo
  go_enter Tryz.func119, Tryz.ntmps119
  go_wp2_with (at_builtin; refine wpList_append_blk rfl (.tmp 21) (.tmp 24) 37 rfl 51 i0 (.agg #[.int .i64 0, .int .i64 0, .int .i64 0, .int .i64 0, .int .i64 0, .int .i64 0, .int .i64 0, .int .u64 0]) 8 64 Tryz.underlying37 HI.out.1 HI.out.2.1 HI.out.2.2.1 HI.out.2.2.2 rfl (by decide) (.slice a q.rows.length c) q.rows.length _ rfl (ownsRow_keep (S := []) HG.out.2.1 ((Fr.refl [] _).alloc _) (by simp)) ⟨w.heap.size, 0, none⟩ 1 1 (QR.f (QR.mk (q.rows.length + 1) 1 0 0 0 0 0 0)) rfl rfl ?qb ?qc ?qd ?qe ?_)
  case qb => exact fun j u h => h
  case qc => exact qL.one _
  case qd => unfold maxLen; omega
  case qe => omega
  intro v w2 ho hF hb hn
  obtain ⟨g, c', rfl, _⟩ := ownsRow_shape ho (by omega)
  have hX := hF.keep (blk_alloc_lt (.cells #[.int .i64 ((q.rows.length : Int) + 1), .int .i64 1, .int .i64 0, .int .i64 0, .int .i64 0, .int .i64 0, .int .i64 0, .int .u64 0] 51) HG.out.1) HG.out.2.2.2
  have e1 := cell_blk (i := 1) hX rfl
  have j1 := free_blk (i := 1) hX
  have hs : qL.cells q.rows ++ QR.f (QR.mk (q.rows.length + 1) 1 0 0 0 0 0 0) = qL.cells (q.rows ++ [QR.mk (q.rows.length + 1) 1 0 0 0 0 0 0]) := qL.snoc _ _
  rw [hs] at ho
  have HZ := hid (And.intro hX (And.intro ho (And.intro hF hb)))
  have hl2 := lt_of_block hX
  clear hX ho hF hb hn hs
  go_wp2_with fail
  go_ret2
  obtain ⟨z1, z2, z3, z4⟩ := HZ.out
  obtain ⟨y1, y2, hback, y4⟩ := HG.out
  have hFw : Fr (Q :: (Value.slice a q.rows.length c).ownBlock.toList) w w2 := ((Fr.refl _ w).alloc (.cells #[.int .i64 ((q.rows.length : Int) + 1), .int .i64 1, .int .i64 0, .int .i64 0, .int .i64 0, .int .i64 0, .int .i64 0, .int .u64 0] 51)).step z3 (fun x hx => .inl (List.mem_cons_of_mem _ hx))
  have hbb : ∀ x, x ∈ (Value.slice (some ⟨g, 0, none⟩) (q.rows.length + 1) c').ownBlock.toList → x ∈ (Value.slice a q.rows.length c).ownBlock.toList ∨ w.heap.size ≤ x := fun x hx => by
    rcases z4 x (by simpa using hx) with h | h
    · exact .inl (by simpa using h)
    · right; first | omega | (simp at h; omega)
  have hgQ : g ≠ Q := fun h => by
    rcases hbb g (by simp [Value.ownBlock]) with h1 | h1
    · rw [h] at h1; exact y4 h1
    · omega
  refine ⟨rfl, hback _ (Q :: (Value.slice (some ⟨g, 0, none⟩) (q.rows.length + 1) c').ownBlock.toList) (Qk1 Q { q with rows := q.rows ++ [QR.mk (q.rows.length + 1) 1 0 0 0 0 0 0] }) inferInstance ⟨.slice (some ⟨g, 0, none⟩) (q.rows.length + 1) c', rfl, ?_, ?_⟩ (hFw.setCell (.inl (by simp)) _) (fun x hx => ?_)⟩
  · rw [blk_setCell_at _ z1]; simp
  · simp only [List.length_append, List.length_singleton]
    exact ownsRow_keep (S := [Q]) z2 ((Fr.refl _ _).setCell (.inl (by simp)) _) (fun x hx => by simp [Value.ownBlock] at hx; subst hx; simpa using hgQ)
  · simp only [List.mem_cons] at hx ⊢
    rcases hx with rfl | hx
    · exact .inl (.inl rfl)
    · exact (hbb x hx).imp .inr id
end

end Go.Proofs.YtmgnekjhlfghaaaGreat

/-
  Grant of the package queue.
-/
namespace Go.Proofs.YtmgnekjhlfghaaaGreat
open Go.RowKit
set_option linter.unusedVariables false
set_option linter.unusedSimpArgs false

theorem row_setk {w : World} {g c n k q : Nat} {l : List QR} {y x : QR} {v : Value} (h : w.ownsRow 0 51 8 (.slice (some ⟨g, 0, none⟩) n c) n (qL.cells (l.set k y))) (hk : k < l.length) (hq : q < 8) (hx : QR.f x = (QR.f y).set q v) :
    (w.setCell ⟨g, k * 8 + q, none⟩ v).ownsRow 0 51 8 (.slice (some ⟨g, 0, none⟩) n c) n (qL.cells (l.set k x)) := by
  have h1 := ownsRow_set h (k * 8 + q) v
  have h2 := qL.set_cell (l.set k y) k q v x (by simpa using hk) hq (by rw [qL.nth_set _ _ _ _ hk, if_pos rfl]; exact hx)
  rw [List.set_set] at h2
  rw [← h2]; exact h1
theorem row_set0 {w : World} {g c n k : Nat} {l : List QR} (h : w.ownsRow 0 51 8 (.slice (some ⟨g, 0, none⟩) n c) n (qL.cells l)) (hk : k < l.length) : w.ownsRow 0 51 8 (.slice (some ⟨g, 0, none⟩) n c) n (qL.cells (l.set k (qL.nth l k))) := by
  have e : l.set k (qL.nth l k) = l := qL.ext (by simp) fun j hj => by
    rw [qL.nth_set _ _ _ _ hk]; split
    · subst_vars; rfl
    · rfl
  rw [e]; exact h

def QS.grant (q : QS) (job badge node life : Int) : Int × QS :=
  if job < 1 ∨ (q.rows.length : Int) < job then (111, q) else if (qL.nth q.rows (job - 1).toNat).st ≠ 1 then (112, q)
  else if inB badge 1 1099511627776 = false ∨ 0 ≤ fIdx (QR.pGrant badge) q.rows then (113, q) else if holdB node life = false then (1, q)
  else (0, { q with rows := q.rows.set (job - 1).toNat { qL.nth q.rows (job - 1).toNat with st := 2, ba := badge, node := node, life := life, at_ := (qL.nth q.rows (job - 1).toNat).at_ + 1 } })

section
variable {W : Base} {w : World} {R : List Thing}

set_option maxHeartbeats 3200000 in
set_option maxRecDepth 100000 in
theorem st_grant (H : St W w R) (i : Nat) {Q : Nat} {q : QS} (hi : R[i]? = some (QkT Q q)) (hw : q.wf) (job badge node life : Int) :
    Calls Tryz.prog 120 #[.pointer (some ⟨Q, 0, none⟩), .int .i64 job, .int .i64 badge, .agg #[.int .i64 node, .int .i64 life]] w fun e w' => e = .returned (.int .i64 (q.grant job badge node life).1) ∧ St W w' (R.set i (QkT Q (q.grant job badge node life).2)) := by
  have hn8 := hw.n
  have hF0 : Fr [] w ((w.alloc (.cells #[.int .i64 badge] 3)).alloc (.cells #[.int .i64 node, .int .i64 life] 46)) := ((Fr.refl [] w).alloc _).alloc _
  have hb1 : ((w.alloc (.cells #[.int .i64 badge] 3)).alloc (.cells #[.int .i64 node, .int .i64 life] 46)).heap[w.heap.size]? = some (.cells #[.int .i64 badge] 3) := blk_alloc_lt _ (blk_alloc_at _ _ _ rfl)
  have hb2 : ((w.alloc (.cells #[.int .i64 badge] 3)).alloc (.cells #[.int .i64 node, .int .i64 life] 46)).heap[w.heap.size + 1]? = some (.cells #[.int .i64 node, .int .i64 life] 46) := blk_alloc_at _ _ _ (by simp)
  have HK := hid (fun (wx : World) (hx : Fr [] w wx) => (H.same hx).set_self hi)
  obtain ⟨F, ⟨rv, rfl, g1, g2⟩, _, hback⟩ := H.at i hi
  have hQo := ownsRow_ne g2 g1 (by decide)
  obtain ⟨a, c, rfl, hIn, _, hab⟩ := own_slice g2
  have HG := hid (And.intro g1 (And.intro g2 (And.intro hback (And.intro hQo hIn))))
  have c1 := cell_blk (i := 1) g1 rfl
  have hQ := lt_of_block g1
  clear g1 g2 hback hQo hIn
  by_cases hj : job < 1 ∨ (q.rows.length : Int) < job
  · have e : q.grant job badge node life = (111, q) := by unfold QS.grant; rw [if_pos hj]
    rw [e]
    have hin : inB job 1 q.rows.length = false := by unfold inB; simp; omega
    have HF := hid hF0
    clear e hj H hF0 hb1 hb2
    go_enter Tryz.func120, Tryz.ntmps120
    go_wp2_with fail
    refine (in_any _ _ _ _).mono ?_
    rw [hin]
    rintro e w1 ⟨rfl, rfl⟩
    go_wp2_with fail
    go_ret
    exact ⟨rfl, HK.out _ HF.out⟩
  have hin : inB job 1 q.rows.length = true := by unfold inB; simp; omega
  obtain ⟨k, rfl⟩ : ∃ k : Nat, job = k + 1 := ⟨(job - 1).toNat, by omega⟩
  have hk : k < q.rows.length := by omega
  have hkk : ((k : Int) + 1 - 1).toNat = k := by omega
  obtain ⟨gg, oo, rfl⟩ := HG.out.2.2.2.2.sm (by omega)
  obtain ⟨_, hoo⟩ := hab gg oo rfl
  subst hoo
  have hrc := qrow_cells (HG.out.2.2.2.2.fr0 hF0) k hk
  obtain ⟨_, r1, _⟩ := hrc
  rw [Nat.zero_add] at r1
  have hgl : gg < w.heap.size := World.block_lt_of_cell? w ⟨gg, 0 + k * 8, none⟩ (qrow_cells HG.out.2.2.2.2 k hk).1
  have HA := hid (And.intro hF0 (And.intro hb1 hb2))
  by_cases hst : (qL.nth q.rows k).st ≠ 1
  · have e : q.grant (k + 1) badge node life = (112, q) := by unfold QS.grant; rw [if_neg hj, hkk, if_pos hst]
    rw [e]
    have hs1 : ((qL.nth q.rows k).st == 1) = false := by rw [beq_eq_false_iff_ne]; exact hst
    have hs2 : ((qL.nth q.rows k).st != 1) = true := by rw [bne_iff_ne]; exact hst
    generalize (qL.nth q.rows k).st = s at r1 hs1 hs2
    clear e hj H hF0 hb1 hb2 hst
    go_enter Tryz.func120, Tryz.ntmps120
    go_wp2_with fail
    refine (in_any _ _ _ _).mono ?_
    rw [hin]
    rintro e w1 ⟨rfl, rfl⟩
    go_wp2_with fail
    go_ret
    exact ⟨rfl, HK.out _ HA.out.1⟩
  have hst1 : (qL.nth q.rows k).st = 1 := by omega
  rw [hst1] at r1
  have HFst := hid (first_any ((w.alloc (.cells #[.int .i64 badge] 3)).alloc (.cells #[.int .i64 node, .int .i64 life] 46)) (some ⟨gg, 0, none⟩) c _ q.rows rfl (HG.out.2.2.2.2.fr0 hF0) 146 #[.pointer (some ⟨w.heap.size, 0, none⟩)] (QR.pGrant badge) enter_grant1 (fun x wx hx => grant1_any wx x _ badge (hx.cell0 (cell_blk hb1 rfl))))
  cases hib : inB badge 1 1099511627776
  case false =>
    have e : q.grant (k + 1) badge node life = (113, q) := by unfold QS.grant; rw [if_neg hj, hkk, if_neg hst, if_pos (.inl hib)]
    rw [e]
    clear e hj H hF0 hb1 hb2 hst hst1
    go_enter Tryz.func120, Tryz.ntmps120
    go_wp2_with fail
    refine (in_any _ _ _ _).mono ?_
    rw [hin]
    rintro e w1 ⟨rfl, rfl⟩
    go_wp2_with fail
    refine (in_any _ _ _ _).mono ?_
    rw [hib]
    rintro e w1 ⟨rfl, rfl⟩
    go_wp2_with fail
    go_ret
    exact ⟨rfl, HK.out _ HA.out.1⟩
  by_cases hfi : 0 ≤ fIdx (QR.pGrant badge) q.rows
  · have e : q.grant (k + 1) badge node life = (113, q) := by unfold QS.grant; rw [if_neg hj, hkk, if_neg hst, if_pos (.inr hfi)]
    rw [e]
    generalize fIdx (QR.pGrant badge) q.rows = z at HFst hfi
    clear e hj H hF0 hb1 hb2 hst hst1
    go_enter Tryz.func120, Tryz.ntmps120
    go_wp2_with fail
    refine (in_any _ _ _ _).mono ?_
    rw [hin]
    rintro e w1 ⟨rfl, rfl⟩
    go_wp2_with fail
    refine (in_any _ _ _ _).mono ?_
    rw [hib]
    rintro e w1 ⟨rfl, rfl⟩
    go_wp2_with fail
    refine HFst.out.mono ?_
    rintro e w2 ⟨rfl, hF2⟩
    have HF2 := hid (HA.out.1.trans hF2)
    clear hF2
    go_wp2_with fail
    go_ret
    exact ⟨rfl, HK.out _ HF2.out⟩
  have hfi2 : fIdx (QR.pGrant badge) q.rows = -1 := by have := fIdx_bd (QR.pGrant badge) q.rows; omega
  rw [hfi2] at HFst
  have hnot : ¬ (inB badge 1 1099511627776 = false ∨ 0 ≤ fIdx (QR.pGrant badge) q.rows) := by rw [hib]; simp; omega
  cases hho : holdB node life
  case false =>
    have e : q.grant (k + 1) badge node life = (1, q) := by unfold QS.grant; rw [if_neg hj, hkk, if_neg hst, if_neg hnot, if_pos hho]
    rw [e]
    clear e hj H hF0 hb1 hb2 hst hst1 hnot hfi hfi2
    go_enter Tryz.func120, Tryz.ntmps120
    go_wp2_with fail
    refine (in_any _ _ _ _).mono ?_
    rw [hin]
    rintro e w1 ⟨rfl, rfl⟩
    go_wp2_with fail
    refine (in_any _ _ _ _).mono ?_
    rw [hib]
    rintro e w1 ⟨rfl, rfl⟩
    go_wp2_with fail
    refine HFst.out.mono ?_
    rintro e w2 ⟨rfl, hF2⟩
    have a0 := cell_blk (i := 0) (hF2.keep HA.out.2.2 (by simp)) rfl
    have a1 := cell_blk (i := 1) (hF2.keep HA.out.2.2 (by simp)) rfl
    have HF2 := hid (HA.out.1.trans hF2)
    clear hF2
    go_wp2_with fail
    refine (holder_any _ _ _).mono ?_
    rw [hho]
    rintro e w3 ⟨rfl, hF3⟩
    have HF3 := hid (HF2.out.trans hF3)
    clear hF3
    go_wp2_with fail
    go_ret
    exact ⟨rfl, HK.out _ HF3.out⟩
  have e : q.grant (k + 1) badge node life = (0, { q with rows := q.rows.set k { qL.nth q.rows k with st := 2, ba := badge, node := node, life := life, at_ := (qL.nth q.rows k).at_ + 1 } }) := by
    unfold QS.grant; rw [if_neg hj, hkk, if_neg hst, if_neg hnot, if_neg (by rw [hho]; simp)]
  rw [e]
  have hmf := may_facts (hw.ok k hk)
  have hat0 := hmf.2.1
  have hat1 := hmf.2.2.1
  have ha2 := hw.a2
  clear e hj H hF0 hb1 hb2 hst hnot hfi hfi2 hmf
  go_enter Tryz.func120, Tryz.ntmps120
  go_wp2_with fail
  refine (in_any _ _ _ _).mono ?_
  rw [hin]
  rintro e w1 ⟨rfl, rfl⟩
  go_wp2_with fail
  refine (in_any _ _ _ _).mono ?_
  rw [hib]
  rintro e w1 ⟨rfl, rfl⟩
  go_wp2_with fail
  refine HFst.out.mono ?_
  rintro e w2 ⟨rfl, hF2⟩
  have a0 := cell_blk (i := 0) (hF2.keep HA.out.2.2 (by simp)) rfl
  have a1 := cell_blk (i := 1) (hF2.keep HA.out.2.2 (by simp)) rfl
  have HF2 := hid (And.intro (HA.out.1.trans hF2) hF2)
  clear hF2
  go_wp2_with fail
  refine (holder_any _ _ _).mono ?_
  rw [hho]
  rintro e w3 ⟨rfl, hF3⟩
  have HF3 := hid (HF2.out.1.trans hF3)
  have hA3 := HF2.out.2.trans hF3
  have d0 := cell_blk (i := 0) (hA3.keep HA.out.2.2 (by simp)) rfl
  have d1 := cell_blk (i := 1) (hA3.keep HA.out.2.2 (by simp)) rfl
  have d2 := cell_blk (i := 0) (hA3.keep HA.out.2.1 (by simp)) rfl
  have q1 := HF3.out.cell0 c1
  have hrow3 := ownsRow_keep (S := []) HG.out.2.1 HF3.out (by simp)
  obtain ⟨r0, s1, r2, r3, r4, r5, r6, r7⟩ := qrow_cells (HG.out.2.2.2.2.fr0 HF3.out) k hk
  rw [Nat.zero_add] at r0 s1 r2 r3 r4 r5 r6 r7
  have hfz : ∀ j, w3.frozen? ⟨gg, j, none⟩ = false := by
    rcases hrow3.2 with ⟨h, _⟩ | ⟨g', cap', cur, hv, _, hh, _⟩
    · cases h
    · cases hv; exact fun j => free_blk hh
  have f1 := hfz (k * 8 + 1)
  have f2 := hfz (k * 8 + 2)
  have f3 := hfz (k * 8 + 3)
  have f4 := hfz (k * 8 + 4)
  have f5 := hfz (k * 8 + 5)
  have hg1 : gg ≠ w.heap.size := by omega
  have hg2 : gg ≠ w.heap.size + 1 := by omega
  have HR3 := hid hrow3
  clear hF3 hA3 hrow3 hfz r1 a0 a1
  go_wp2_with fail
  go_region
  have hln : (q.rows).length = q.rows.length := rfl
  have hr4 : ((((w3.setCell ⟨gg, k * 8 + 1, none⟩ (.int .i64 2)).setCell ⟨gg, k * 8 + 3, none⟩ (.int .i64 badge)).setCell ⟨gg, k * 8 + 4, none⟩ (.int .i64 node)).setCell ⟨gg, k * 8 + 4 + 1, none⟩ (.int .i64 life)).ownsRow 0 51 8 (.slice (some ⟨gg, 0, none⟩) q.rows.length c) q.rows.length (qL.cells (q.rows.set k { qL.nth q.rows k with st := 2, ba := badge, node := node, life := life })) :=
    row_setk (q := 5) (y := { qL.nth q.rows k with st := 2, ba := badge, node := node }) (row_setk (q := 4) (y := { qL.nth q.rows k with st := 2, ba := badge }) (row_setk (q := 3) (y := { qL.nth q.rows k with st := 2 }) (row_setk (q := 1) (row_set0 HR3.out hk) hk (by decide) rfl) hk (by decide) rfl) hk (by decide) rfl) hk (by decide) rfl
  have hF4 : Fr [gg] w3 ((((w3.setCell ⟨gg, k * 8 + 1, none⟩ (.int .i64 2)).setCell ⟨gg, k * 8 + 3, none⟩ (.int .i64 badge)).setCell ⟨gg, k * 8 + 4, none⟩ (.int .i64 node)).setCell ⟨gg, k * 8 + 4 + 1, none⟩ (.int .i64 life)) := ((((Fr.refl _ w3).setCell (.inl (by simp)) _).setCell (.inl (by simp)) _).setCell (.inl (by simp)) _).setCell (.inl (by simp)) _
  generalize (((w3.setCell ⟨gg, k * 8 + 1, none⟩ (.int .i64 2)).setCell ⟨gg, k * 8 + 3, none⟩ (.int .i64 badge)).setCell ⟨gg, k * 8 + 4, none⟩ (.int .i64 node)).setCell ⟨gg, k * 8 + 4 + 1, none⟩ (.int .i64 life) = w4 at hr4 hF4 ⊢
  obtain ⟨_, _, t2, _⟩ := qrow_cells (l := q.rows.set k { qL.nth q.rows k with st := 2, ba := badge, node := node, life := life }) (ownsRow_in hr4 (qL.at_ (q.rows.set k { qL.nth q.rows k with st := 2, ba := badge, node := node, life := life })) (fun j hj => qL.get _ j (by rw [List.length_set]; exact hj))) k hk
  rw [qL.nth_set _ _ _ _ hk, if_pos rfl, Nat.zero_add] at t2
  have g2 : w4.frozen? ⟨gg, k * 8 + 2, none⟩ = false := by
    rcases hr4.2 with ⟨h, _⟩ | ⟨g', cap', cur, hv, _, hh, _⟩
    · cases h
    · cases hv; exact free_blk hh
  have HR4 := hid (And.intro hr4 hF4)
  clear hr4 hF4 r0 s1 r2 r3 r4 r5 r6 r7 f1 f2 f3 f4 f5 d0 d1 d2 q1
  simp only [] at t2
  go_wp2_with fail
  go_ret
  obtain ⟨y1, y2, hback, y4, y5⟩ := HG.out
  have hr5 := row_setk (q := 2) (x := { qL.nth q.rows k with st := 2, ba := badge, node := node, life := life, at_ := (qL.nth q.rows k).at_ + 1 }) (v := .int .i64 ((qL.nth q.rows k).at_ + 1)) HR4.out.1 hk (by decide) rfl
  have hF5 : Fr (Q :: (Value.slice (some ⟨gg, 0, none⟩) q.rows.length c).ownBlock.toList) w (w4.setCell ⟨gg, k * 8 + 2, none⟩ (.int .i64 ((qL.nth q.rows k).at_ + 1))) :=
    ((HF3.out.mono (by simp)).step HR4.out.2 (fun x hx => .inl (by simp at hx; subst hx; simp [Value.ownBlock]))).setCell (.inl (by simp [Value.ownBlock])) _
  have hgQ : Q ≠ gg := fun h => y4 (by subst h; simp [Value.ownBlock])
  have hQ5 : (w4.setCell ⟨gg, k * 8 + 2, none⟩ (.int .i64 ((qL.nth q.rows k).at_ + 1))).heap[Q]? = some (.cells #[.int .i64 q.att, .slice (some ⟨gg, 0, none⟩) q.rows.length c] 127 (0, 0)) :=
    blk_setCell_ne _ (HR4.out.2.keep (HF3.out.keep y1 (by simp)) (by simpa using hgQ)) hgQ
  refine ⟨rfl, (hback _ (Q :: (Value.slice (some ⟨gg, 0, none⟩) q.rows.length c).ownBlock.toList) (Qk1 Q { q with rows := q.rows.set k { qL.nth q.rows k with st := 2, ba := badge, node := node, life := life, at_ := (qL.nth q.rows k).at_ + 1 } }) inferInstance ⟨.slice (some ⟨gg, 0, none⟩) q.rows.length c, rfl, hQ5, ?_⟩ hF5 (fun x hx => .inl hx)).drew⟩
  simp only [List.length_set]
  exact hr5
end

end Go.Proofs.YtmgnekjhlfghaaaGreat

/-
  Expire, Settle of the package queue.
-/
namespace Go.Proofs.YtmgnekjhlfghaaaGreat
open Go.RowKit
set_option linter.unusedVariables false
set_option linter.unusedSimpArgs false

def QS.expire (q : QS) (b : Int) : Int × Int × QS :=
  if fIdx (QR.pHeld b) q.rows < 0 then (0, 113, q)
  else ((qL.nth q.rows (fIdx (QR.pHeld b) q.rows).toNat).job, 0, { q with rows := q.rows.set (fIdx (QR.pHeld b) q.rows).toNat { qL.nth q.rows (fIdx (QR.pHeld b) q.rows).toNat with st := if q.att ≤ (qL.nth q.rows (fIdx (QR.pHeld b) q.rows).toNat).at_ then 4 else 1, node := 0, life := 0 } })
def QS.settle (q : QS) (b code bits : Int) : Int × Int × QS :=
  if fIdx (QR.pHeld b) q.rows < 0 then (0, 113, q) else if resB code bits = false then (0, 1, q)
  else ((qL.nth q.rows (fIdx (QR.pHeld b) q.rows).toNat).job, 0, { q with rows := q.rows.set (fIdx (QR.pHeld b) q.rows).toNat { qL.nth q.rows (fIdx (QR.pHeld b) q.rows).toNat with st := 3, node := 0, life := 0, code := code, bits := bits } })

section
variable {W : Base} {w : World} {R : List Thing}

set_option maxHeartbeats 3200000 in
set_option maxRecDepth 100000 in
theorem st_expire (H : St W w R) (i : Nat) {Q : Nat} {q : QS} (hi : R[i]? = some (QkT Q q)) (hw : q.wf) (b : Int) :
    Calls Tryz.prog 121 #[.pointer (some ⟨Q, 0, none⟩), .int .i64 b] w fun e w' => e = .returned (.tuple #[.int .i64 (q.expire b).1, .int .i64 (q.expire b).2.1]) ∧ St W w' (R.set i (QkT Q (q.expire b).2.2)) := by
  have hn8 := hw.n
  have HK := hid (fun (wx : World) (hx : Fr [] w wx) => (H.same hx).set_self hi)
  obtain ⟨F, ⟨rv, rfl, g1, g2⟩, _, hback⟩ := H.at i hi
  have hQo := ownsRow_ne g2 g1 (by decide)
  obtain ⟨a, c, rfl, hIn, _, hab⟩ := own_slice g2
  have HG := hid (And.intro g1 (And.intro g2 (And.intro hback (And.intro hQo hIn))))
  have c0 := cell_blk (i := 0) g1 rfl
  have c1 := cell_blk (i := 1) g1 rfl
  have hQ := lt_of_block g1
  have hbd := fIdx_bd (QR.pHeld b) q.rows
  clear g1 g2 hback hQo hIn
  by_cases hneg : fIdx (QR.pHeld b) q.rows < 0
  · have e : q.expire b = (0, 113, q) := by unfold QS.expire; rw [if_pos hneg]
    rw [e]
    have HH := hid (held_none w Q _ c a q.rows rfl c1 HG.out.2.2.2.2 b (by omega))
    clear e H hneg hbd
    go_enter Tryz.func121, Tryz.ntmps121
    go_wp2_with fail
    refine HH.out.mono ?_
    rintro e w1 ⟨rfl, hF1⟩
    have HF1 := hid hF1
    clear hF1
    go_wp2_with fail
    go_ret2
    exact ⟨rfl, HK.out _ HF1.out⟩
  obtain ⟨k, hfk⟩ : ∃ k : Nat, fIdx (QR.pHeld b) q.rows = k := ⟨(fIdx (QR.pHeld b) q.rows).toNat, by omega⟩
  have hk : k < q.rows.length := by omega
  obtain ⟨gg, oo, rfl⟩ := HG.out.2.2.2.2.sm (by omega)
  obtain ⟨_, hoo⟩ := hab gg oo rfl
  subst hoo
  have hgQ : Q ≠ gg := fun h => HG.out.2.2.2.1 (by subst h; simp [Value.ownBlock])
  have hmf := may_facts (hw.ok k hk)
  have e : q.expire b = ((qL.nth q.rows k).job, 0, { q with rows := q.rows.set k { qL.nth q.rows k with st := if q.att ≤ (qL.nth q.rows k).at_ then 4 else 1, node := 0, life := 0 } }) := by
    unfold QS.expire; rw [if_neg hneg, hfk]; rfl
  rw [e]
  have HH := hid (held_some w Q _ c gg q.rows rfl hn8 c1 HG.out.2.2.2.2 b k hk hfk)
  clear e H hneg hbd hmf hfk
  go_enter Tryz.func121, Tryz.ntmps121
  go_wp2_with fail
  refine HH.out.mono ?_
  rintro e w3 ⟨rfl, hF3⟩
  have HF3 := hid hF3
  have q0 := hF3.cell0 c0
  have q1 := hF3.cell0 c1
  have hrow3 := ownsRow_keep (S := []) HG.out.2.1 hF3 (by simp)
  obtain ⟨r0, r1, r2, r3, r4, r5, r6, r7⟩ := qrow_cells (HG.out.2.2.2.2.fr0 hF3) k hk
  rw [Nat.zero_add] at r0 r1 r2 r3 r4 r5 r6 r7
  have hfz : ∀ j, w3.frozen? ⟨gg, j, none⟩ = false := by
    rcases hrow3.2 with ⟨h, _⟩ | ⟨g', cap', cur, hv, _, hh, _⟩
    · cases h
    · cases hv; exact fun j => free_blk hh
  have f1 := hfz (k * 8 + 1)
  have f4 := hfz (k * 8 + 4)
  have f5 := hfz (k * 8 + 5)
  have f6 := hfz (k * 8 + 6)
  have f7 := hfz (k * 8 + 7)
  have HR3 := hid hrow3
  clear hrow3 hfz
  clear hF3
  have hr4 : ((((w3.setCell ⟨gg, k * 8 + 1, none⟩ (.int .i64 1)).setCell ⟨gg, k * 8 + 4, none⟩ (.int .i64 0)).setCell ⟨gg, k * 8 + 4 + 1, none⟩ (.int .i64 0))).ownsRow 0 51 8 (.slice (some ⟨gg, 0, none⟩) q.rows.length c) q.rows.length (qL.cells (q.rows.set k { qL.nth q.rows k with st := 1, node := 0, life := 0 })) :=
    row_setk (q := 5) (y := { qL.nth q.rows k with st := 1, node := 0 }) (row_setk (q := 4) (y := { qL.nth q.rows k with st := 1 }) (row_setk (q := 1) (row_set0 HR3.out hk) hk (by decide) rfl) hk (by decide) rfl) hk (by decide) rfl
  have hF4 : Fr [gg] w3 ((((w3.setCell ⟨gg, k * 8 + 1, none⟩ (.int .i64 1)).setCell ⟨gg, k * 8 + 4, none⟩ (.int .i64 0)).setCell ⟨gg, k * 8 + 4 + 1, none⟩ (.int .i64 0))) := (((Fr.refl _ w3).setCell (.inl (by simp)) _).setCell (.inl (by simp)) _).setCell (.inl (by simp)) _
  have HR4 := hid (And.intro hr4 hF4)
  clear hr4 hF4
  go_wp2_with fail
  generalize (((w3.setCell ⟨gg, k * 8 + 1, none⟩ (.int .i64 1)).setCell ⟨gg, k * 8 + 4, none⟩ (.int .i64 0)).setCell ⟨gg, k * 8 + 4 + 1, none⟩ (.int .i64 0)) = w4 at HR4 ⊢
  have hI4 := ownsRow_in HR4.out.1 (qL.at_ (q.rows.set k { qL.nth q.rows k with st := 1, node := 0, life := 0 })) (fun j hj => qL.get _ j (by rw [List.length_set]; exact hj))
  clear r0 r1 r2 r3 r4 r5 r6 r7 f1 f4 f5 f6 f7 q0 q1
  obtain ⟨r0, r1, r2, r3, r4, r5, r6, r7⟩ := qrow_cells (l := q.rows.set k { qL.nth q.rows k with st := 1, node := 0, life := 0 }) hI4 k hk
  rw [qL.nth_set _ _ _ _ hk, if_pos rfl, Nat.zero_add] at r0 r1 r2
  simp only [] at r0 r1 r2
  have hQ4 := HR4.out.2.keep (HF3.out.keep HG.out.1 (by simp)) (by simpa using hgQ)
  have q0 := cell_blk (i := 0) hQ4 rfl
  have f1 : w4.frozen? ⟨gg, k * 8 + 1, none⟩ = false := by
    rcases HR4.out.1.2 with ⟨h, _⟩ | ⟨g', cap', cur, hv, _, hh, _⟩
    · cases h
    · cases hv; exact free_blk hh
  have HQ4 := hid hQ4
  clear hI4 hQ4 r3 r4 r5 r6 r7
  go_region_held3 (fun wx : World => wx.cell? ⟨gg, k * 8 + 2, none⟩ = some (.int .i64 (qL.nth q.rows k).at_) ∧ wx.cell? ⟨Q, 0, none⟩ = some (.int .i64 q.att)) ((exact ⟨r2, q0⟩)) (fail)
  by_cases hge : q.att ≤ (qL.nth q.rows k).at_
  · have HGe := hid hge
    generalize hgj : (qL.nth q.rows k).job = jb at r0
    have HJb := hid hgj
    clear hgj
    go_wp2_with fail
    go_ret2
    obtain ⟨y1, y2, hback, y4, y5⟩ := HG.out
    have hr5 := row_setk (q := 1) (x := { qL.nth q.rows k with st := 4, node := 0, life := 0 }) (v := .int .i64 4) HR4.out.1 hk (by decide) rfl
    have hF5 : Fr (Q :: (Value.slice (some ⟨gg, 0, none⟩) q.rows.length c).ownBlock.toList) w (w4.setCell ⟨gg, k * 8 + 1, none⟩ (.int .i64 4)) :=
      ((HF3.out.mono (by simp)).step HR4.out.2 (fun x hx => .inl (by simp at hx; subst hx; simp [Value.ownBlock]))).setCell (.inl (by simp [Value.ownBlock])) _
    try rw [if_pos HGe.out]
    refine ⟨by rw [HJb.out]; rfl, (hback _ (Q :: (Value.slice (some ⟨gg, 0, none⟩) q.rows.length c).ownBlock.toList) (Qk1 Q { q with rows := q.rows.set k { qL.nth q.rows k with st := 4, node := 0, life := 0 } }) inferInstance ⟨.slice (some ⟨gg, 0, none⟩) q.rows.length c, rfl, blk_setCell_ne _ HQ4.out hgQ, ?_⟩ hF5 (fun x hx => .inl hx)).drew⟩
    simp only [List.length_set]
    exact hr5
  · have HGe := hid hge
    have hge2 : (qL.nth q.rows k).at_ < q.att := by omega
    generalize hgj : (qL.nth q.rows k).job = jb at r0
    have HJb := hid hgj
    clear hgj
    go_wp2_with fail
    go_ret2
    obtain ⟨y1, y2, hback, y4, y5⟩ := HG.out
    have hF5 : Fr (Q :: (Value.slice (some ⟨gg, 0, none⟩) q.rows.length c).ownBlock.toList) w w4 :=
      (HF3.out.mono (by simp)).step HR4.out.2 (fun x hx => .inl (by simp at hx; subst hx; simp [Value.ownBlock]))
    try rw [if_neg HGe.out]
    refine ⟨by rw [HJb.out]; rfl, (hback w4 (Q :: (Value.slice (some ⟨gg, 0, none⟩) q.rows.length c).ownBlock.toList) (Qk1 Q { q with rows := q.rows.set k { qL.nth q.rows k with st := 1, node := 0, life := 0 } }) inferInstance ⟨.slice (some ⟨gg, 0, none⟩) q.rows.length c, rfl, HQ4.out, ?_⟩ hF5 (fun x hx => .inl hx)).drew⟩
    simp only [List.length_set]
    exact HR4.out.1

set_option maxHeartbeats 3200000 in
set_option maxRecDepth 100000 in
theorem st_settle (H : St W w R) (i : Nat) {Q : Nat} {q : QS} (hi : R[i]? = some (QkT Q q)) (hw : q.wf) (b code bits : Int) :
    Calls Tryz.prog 122 #[.pointer (some ⟨Q, 0, none⟩), .int .i64 b, .agg #[.int .i64 code, .int .u64 bits]] w fun e w' => e = .returned (.tuple #[.int .i64 (q.settle b code bits).1, .int .i64 (q.settle b code bits).2.1]) ∧ St W w' (R.set i (QkT Q (q.settle b code bits).2.2)) := by
  have hn8 := hw.n
  have HK := hid (fun (wx : World) (hx : Fr [] w wx) => (H.same hx).set_self hi)
  obtain ⟨F, ⟨rv, rfl, g1, g2⟩, _, hback⟩ := H.at i hi
  have hQo := ownsRow_ne g2 g1 (by decide)
  obtain ⟨a, c, rfl, hIn, _, hab⟩ := own_slice g2
  have HG := hid (And.intro g1 (And.intro g2 (And.intro hback (And.intro hQo hIn))))
  have c0 := cell_blk (i := 0) g1 rfl
  have c1 := cell_blk (i := 1) g1 rfl
  have hQ := lt_of_block g1
  have hbd := fIdx_bd (QR.pHeld b) q.rows
  clear g1 g2 hback hQo hIn
  have hF0 : Fr [] w (w.alloc (.cells #[.int .i64 code, .int .u64 bits] 49)) := (Fr.refl [] w).alloc _
  have hX0 : (w.alloc (.cells #[.int .i64 code, .int .u64 bits] 49)).heap[w.heap.size]? = some (.cells #[.int .i64 code, .int .u64 bits] 49) := blk_alloc_at _ _ _ rfl
  have HA := hid (And.intro hF0 hX0)
  by_cases hneg : fIdx (QR.pHeld b) q.rows < 0
  · have e : q.settle b code bits = (0, 113, q) := by unfold QS.settle; rw [if_pos hneg]
    rw [e]
    have HH := hid (held_none (w.alloc (.cells #[.int .i64 code, .int .u64 bits] 49)) Q _ c a q.rows rfl (hF0.cell0 c1) (HG.out.2.2.2.2.fr0 hF0) b (by omega))
    clear e H hneg hbd hF0 hX0
    go_enter Tryz.func122, Tryz.ntmps122
    go_wp2_with fail
    refine HH.out.mono ?_
    rintro e w1 ⟨rfl, hF1⟩
    have HF1 := hid (HA.out.1.trans hF1)
    clear hF1
    go_wp2_with fail
    go_ret2
    exact ⟨rfl, HK.out _ HF1.out⟩
  obtain ⟨k, hfk⟩ : ∃ k : Nat, fIdx (QR.pHeld b) q.rows = k := ⟨(fIdx (QR.pHeld b) q.rows).toNat, by omega⟩
  have hk : k < q.rows.length := by omega
  obtain ⟨gg, oo, rfl⟩ := HG.out.2.2.2.2.sm (by omega)
  obtain ⟨_, hoo⟩ := hab gg oo rfl
  subst hoo
  have hgQ : Q ≠ gg := fun h => HG.out.2.2.2.1 (by subst h; simp [Value.ownBlock])
  have HH := hid (held_some (w.alloc (.cells #[.int .i64 code, .int .u64 bits] 49)) Q _ c gg q.rows rfl hn8 (hF0.cell0 c1) (HG.out.2.2.2.2.fr0 hF0) b k hk hfk)
  cases hrs : resB code bits
  case false =>
    have e : q.settle b code bits = (0, 1, q) := by unfold QS.settle; rw [if_neg hneg, if_pos hrs]
    rw [e]
    clear e H hneg hbd hfk hF0 hX0
    go_enter Tryz.func122, Tryz.ntmps122
    go_wp2_with fail
    refine HH.out.mono ?_
    rintro e w1 ⟨rfl, hF1⟩
    have x0 := cell_blk (i := 0) (hF1.keep HA.out.2 (by simp)) rfl
    have x1 := cell_blk (i := 1) (hF1.keep HA.out.2 (by simp)) rfl
    have HF1 := hid (HA.out.1.trans hF1)
    clear hF1
    go_wp2_with fail
    refine (result_any _ _ _).mono ?_
    rw [hrs]
    rintro e w2 ⟨rfl, hF2⟩
    have HF2 := hid (HF1.out.trans hF2)
    clear hF2
    go_wp2_with fail
    go_ret2
    exact ⟨rfl, HK.out _ HF2.out⟩
  have e : q.settle b code bits = ((qL.nth q.rows k).job, 0, { q with rows := q.rows.set k { qL.nth q.rows k with st := 3, node := 0, life := 0, code := code, bits := bits } }) := by
    unfold QS.settle; rw [if_neg hneg, if_neg (by rw [hrs]; simp), hfk]; rfl
  rw [e]
  clear e H hneg hbd hfk hF0 hX0
  go_enter Tryz.func122, Tryz.ntmps122
  go_wp2_with fail
  refine HH.out.mono ?_
  rintro e w2 ⟨rfl, hF2⟩
  have x0 := cell_blk (i := 0) (hF2.keep HA.out.2 (by simp)) rfl
  have x1 := cell_blk (i := 1) (hF2.keep HA.out.2 (by simp)) rfl
  have HF2 := hid (And.intro (HA.out.1.trans hF2) hF2)
  clear hF2
  go_wp2_with fail
  refine (result_any _ _ _).mono ?_
  rw [hrs]
  rintro e w3 ⟨rfl, hF3'⟩
  have hF3 := HF2.out.1.trans hF3'
  have HF3 := hid hF3
  clear x0 x1
  have x0 := cell_blk (i := 0) ((HF2.out.2.trans hF3').keep HA.out.2 (by simp)) rfl
  have x1 := cell_blk (i := 1) ((HF2.out.2.trans hF3').keep HA.out.2 (by simp)) rfl
  have q0 := hF3.cell0 c0
  have q1 := hF3.cell0 c1
  have hrow3 := ownsRow_keep (S := []) HG.out.2.1 hF3 (by simp)
  obtain ⟨r0, r1, r2, r3, r4, r5, r6, r7⟩ := qrow_cells (HG.out.2.2.2.2.fr0 hF3) k hk
  rw [Nat.zero_add] at r0 r1 r2 r3 r4 r5 r6 r7
  have hfz : ∀ j, w3.frozen? ⟨gg, j, none⟩ = false := by
    rcases hrow3.2 with ⟨h, _⟩ | ⟨g', cap', cur, hv, _, hh, _⟩
    · cases h
    · cases hv; exact fun j => free_blk hh
  have f1 := hfz (k * 8 + 1)
  have f4 := hfz (k * 8 + 4)
  have f5 := hfz (k * 8 + 5)
  have f6 := hfz (k * 8 + 6)
  have f7 := hfz (k * 8 + 7)
  have HR3 := hid hrow3
  clear hrow3 hfz
  have hgw : gg ≠ w.heap.size := by have := World.block_lt_of_cell? w ⟨gg, 0 + k * 8, none⟩ (qrow_cells HG.out.2.2.2.2 k hk).1; simp only [] at this; omega
  clear hF3 hF3'
  go_wp2_with fail
  go_region
  have hr4 : ((((((w3.setCell ⟨gg, k * 8 + 1, none⟩ (.int .i64 3)).setCell ⟨gg, k * 8 + 4, none⟩ (.int .i64 0)).setCell ⟨gg, k * 8 + 4 + 1, none⟩ (.int .i64 0)).setCell ⟨gg, k * 8 + 6, none⟩ (.int .i64 code)).setCell ⟨gg, k * 8 + 6 + 1, none⟩ (.int .u64 bits))).ownsRow 0 51 8 (.slice (some ⟨gg, 0, none⟩) q.rows.length c) q.rows.length (qL.cells (q.rows.set k { qL.nth q.rows k with st := 3, node := 0, life := 0, code := code, bits := bits })) :=
    row_setk (q := 7) (y := { qL.nth q.rows k with st := 3, node := 0, life := 0, code := code }) (row_setk (q := 6) (y := { qL.nth q.rows k with st := 3, node := 0, life := 0 }) (row_setk (q := 5) (y := { qL.nth q.rows k with st := 3, node := 0 }) (row_setk (q := 4) (y := { qL.nth q.rows k with st := 3 }) (row_setk (q := 1) (row_set0 HR3.out hk) hk (by decide) rfl) hk (by decide) rfl) hk (by decide) rfl) hk (by decide) rfl) hk (by decide) rfl
  have hF4 : Fr [gg] w3 ((((((w3.setCell ⟨gg, k * 8 + 1, none⟩ (.int .i64 3)).setCell ⟨gg, k * 8 + 4, none⟩ (.int .i64 0)).setCell ⟨gg, k * 8 + 4 + 1, none⟩ (.int .i64 0)).setCell ⟨gg, k * 8 + 6, none⟩ (.int .i64 code)).setCell ⟨gg, k * 8 + 6 + 1, none⟩ (.int .u64 bits))) := (((((Fr.refl _ w3).setCell (.inl (by simp)) _).setCell (.inl (by simp)) _).setCell (.inl (by simp)) _).setCell (.inl (by simp)) _).setCell (.inl (by simp)) _
  have HR4 := hid (And.intro hr4 hF4)
  clear hr4 hF4
  generalize (((((w3.setCell ⟨gg, k * 8 + 1, none⟩ (.int .i64 3)).setCell ⟨gg, k * 8 + 4, none⟩ (.int .i64 0)).setCell ⟨gg, k * 8 + 4 + 1, none⟩ (.int .i64 0)).setCell ⟨gg, k * 8 + 6, none⟩ (.int .i64 code)).setCell ⟨gg, k * 8 + 6 + 1, none⟩ (.int .u64 bits)) = w4 at HR4 ⊢
  have hI4 := ownsRow_in HR4.out.1 (qL.at_ (q.rows.set k { qL.nth q.rows k with st := 3, node := 0, life := 0, code := code, bits := bits })) (fun j hj => qL.get _ j (by rw [List.length_set]; exact hj))
  clear r0 r1 r2 r3 r4 r5 r6 r7 f1 f4 f5 f6 f7 q0 q1 x0 x1
  obtain ⟨r0, r1, r2, r3, r4, r5, r6, r7⟩ := qrow_cells (l := q.rows.set k { qL.nth q.rows k with st := 3, node := 0, life := 0, code := code, bits := bits }) hI4 k hk
  rw [qL.nth_set _ _ _ _ hk, if_pos rfl, Nat.zero_add] at r0
  simp only [] at r0
  clear hI4 r1 r2 r3 r4 r5 r6 r7
  generalize hgj : (qL.nth q.rows k).job = jb at r0
  have HJb := hid hgj
  clear hgj
  go_wp2_with fail
  go_ret2
  obtain ⟨y1, y2, hback, y4, y5⟩ := HG.out
  have hQ4 := HR4.out.2.keep (HF3.out.keep HG.out.1 (by simp)) (by simpa using hgQ)
  have hF5 : Fr (Q :: (Value.slice (some ⟨gg, 0, none⟩) q.rows.length c).ownBlock.toList) w w4 :=
    (HF3.out.mono (by simp)).step HR4.out.2 (fun x hx => .inl (by simp at hx; subst hx; simp [Value.ownBlock]))
  refine ⟨by rw [HJb.out]; rfl, (hback w4 (Q :: (Value.slice (some ⟨gg, 0, none⟩) q.rows.length c).ownBlock.toList) (Qk1 Q { q with rows := q.rows.set k { qL.nth q.rows k with st := 3, node := 0, life := 0, code := code, bits := bits } }) inferInstance ⟨.slice (some ⟨gg, 0, none⟩) q.rows.length c, rfl, hQ4, ?_⟩ hF5 (fun x hx => .inl hx)).drew⟩
  simp only [List.length_set]
  exact HR4.out.1
end

end Go.Proofs.YtmgnekjhlfghaaaGreat

/-
  What may be of a queue stays so, whatever is called. Plain.
-/
namespace Go.Proofs.YtmgnekjhlfghaaaGreat
open Go.RowKit
set_option linter.unusedVariables false
set_option linter.unusedSimpArgs false

theorem wf_set {q : QS} (hw : q.wf) {k : Nat} (hk : k < q.rows.length) {x : QR} (hm : x.may q.att (k + 1) = true) (hb : 0 < x.ba → ∀ i, i < q.rows.length → i ≠ k → (qL.nth q.rows i).ba ≠ x.ba) : ({ q with rows := q.rows.set k x } : QS).wf := by
  refine ⟨hw.a1, hw.a2, by simpa using hw.n, fun j hj => ?_, fun i j hij hj h0 => ?_⟩
  · simp only [List.length_set] at hj
    show (qL.nth (q.rows.set k x) j).may q.att (j + 1) = true
    rw [qL.nth_set _ _ _ _ hk]
    by_cases h : j = k
    · rw [if_pos h, h]; exact hm
    · rw [if_neg h]; exact hw.ok j hj
  · simp only [List.length_set] at hj
    change 0 < (qL.nth (q.rows.set k x) j).ba at h0
    show (qL.nth (q.rows.set k x) i).ba ≠ (qL.nth (q.rows.set k x) j).ba
    rw [qL.nth_set _ _ _ _ hk] at h0 ⊢
    rw [qL.nth_set _ _ _ _ hk]
    by_cases h1 : j = k
    · rw [if_pos h1] at h0 ⊢
      rw [if_neg (by omega)]
      exact hb h0 i (by omega) (by omega)
    · rw [if_neg h1] at h0 ⊢
      by_cases h2 : i = k
      · rw [if_pos h2]
        by_cases hx : 0 < x.ba
        · exact fun e => hb hx j hj h1 e.symm
        · exact fun e => hx (by rw [e]; exact h0)
      · rw [if_neg h2]; exact hw.ba i j hij hj h0

theorem kb_iff (r : QR) : r.kb = true ↔ (r.st = 2 ∨ r.node = 0 ∧ r.life = 0) ∧ (r.st = 3 ∨ r.code = 0 ∧ r.bits = 0) := by
  unfold QR.kb; simp
theorem may_mk {att : Int} {r : QR} {j : Int} (h1 : r.job = j) (h2 : 0 ≤ r.at_) (h3 : r.at_ ≤ att) (h4 : 0 ≤ r.ba) (h5 : r.ba ≤ 1099511627776) (h6 : 0 < r.ba ↔ 0 < r.at_) (h7 : r.kb = true) (h8 : r.kc att = true) : r.may att j = true := by
  unfold QR.may QR.ka inB
  simp only [Bool.and_eq_true, decide_eq_true_eq, beq_iff_eq, decide_eq_decide]
  exact ⟨⟨⟨⟨⟨h1, h2, h3⟩, h4, h5⟩, h6⟩, h7⟩, h8⟩

theorem kc_1 {att : Int} {r : QR} (h : r.st = 1) : r.kc att = decide (r.at_ < att) := by unfold QR.kc; rw [if_pos h]
theorem kc_2 {att : Int} {r : QR} (h : r.st = 2) : r.kc att = (decide (0 < r.at_) && holdB r.node r.life) := by unfold QR.kc; rw [if_neg (by omega), if_pos h]
theorem kc_3 {att : Int} {r : QR} (h : r.st = 3) : r.kc att = (decide (0 < r.at_) && resB r.code r.bits) := by unfold QR.kc; rw [if_neg (by omega), if_neg (by omega), if_pos h]
theorem kc_4 {att : Int} {r : QR} (h : r.st = 4) : r.kc att = (r.at_ == att) := by unfold QR.kc; rw [if_neg (by omega), if_neg (by omega), if_neg (by omega), if_pos h]

theorem submit_wf {q : QS} (hw : q.wf) : q.submit.2.2.wf := by
  unfold QS.submit
  by_cases h8 : 8 ≤ q.rows.length
  · rw [if_pos h8]; exact hw
  rw [if_neg h8]
  have ha := hw.a1
  refine ⟨hw.a1, hw.a2, by simp; omega, fun j hj => ?_, fun i j hij hj h0 => ?_⟩
  · simp only [List.length_append, List.length_singleton] at hj
    show (qL.nth (q.rows ++ [_]) j).may q.att (j + 1) = true
    rw [qL.nth_snoc]
    by_cases h : j = q.rows.length
    · rw [if_pos h, h]
      exact may_mk rfl (Int.le_refl _) (by simp only []; omega) (Int.le_refl _) (by simp) (by simp) (by rw [kb_iff]; simp) (by rw [kc_1 rfl]; simp; omega)
    · rw [if_neg h]; exact hw.ok j (by omega)
  · simp only [List.length_append, List.length_singleton] at hj
    change 0 < (qL.nth (q.rows ++ [_]) j).ba at h0
    show (qL.nth (q.rows ++ [_]) i).ba ≠ (qL.nth (q.rows ++ [_]) j).ba
    rw [qL.nth_snoc] at h0 ⊢
    rw [qL.nth_snoc]
    by_cases h : j = q.rows.length
    · rw [if_pos h] at h0; exact absurd h0 (by simp)
    · rw [if_neg h] at h0 ⊢
      rw [if_neg (by omega)]
      exact hw.ba i j hij (by omega) h0

theorem grant_wf {q : QS} (hw : q.wf) (job badge node life : Int) : (q.grant job badge node life).2.wf := by
  unfold QS.grant
  split
  · exact hw
  rename_i hj
  split
  · exact hw
  rename_i hst
  split
  · exact hw
  rename_i hb
  split
  · exact hw
  rename_i hh
  have hk : (job - 1).toNat < q.rows.length := by omega
  have hkj : (((job - 1).toNat : Nat) : Int) + 1 = job := by omega
  have hm := may_facts (hw.ok _ hk)
  have hst1 : (qL.nth q.rows (job - 1).toNat).st = 1 := by omega
  obtain ⟨m1, m2, m3, m4, m5, m6, m7, m8⟩ := hm
  rw [kc_1 hst1] at m8
  rw [kb_iff] at m7
  have hbb : 1 ≤ badge ∧ badge ≤ 1099511627776 := by
    have : inB badge 1 1099511627776 = true := by cases h : inB badge 1 1099511627776; exact absurd (.inl h) hb; rfl
    unfold inB at this; simpa using this
  have hgr : ∀ i, i < q.rows.length → (qL.nth q.rows i).ba < badge := fun i hi => by
    rcases fIdx_cases (QR.pGrant badge) q.rows with ⟨k, _, _, _, h⟩ | ⟨h, _⟩
    · exact absurd (.inr (by rw [h]; omega)) hb
    · have := h i hi; unfold QR.pGrant at this; simpa using this
  have hho : holdB node life = true := by cases h : holdB node life; exact absurd h hh; rfl
  refine wf_set hw hk (may_mk (by simp only []; omega) (by simp only []; omega) (by simp only [decide_eq_true_eq] at m8 ⊢; omega) (by simp only []; omega) (by simp only []; omega) (by simp only []; omega) ?_ ?_) (fun _ i hi _ => by have := hgr i hi; simp only []; omega)
  · rw [kb_iff]; exact ⟨.inl rfl, .inr (m7.2.resolve_left (by omega))⟩
  · rw [kc_2 rfl]; simp only [hho, Bool.and_true, decide_eq_true_eq]; omega

theorem held_facts {q : QS} (hw : q.wf) {b : Int} (h : ¬ fIdx (QR.pHeld b) q.rows < 0) : (fIdx (QR.pHeld b) q.rows).toNat < q.rows.length ∧ (qL.nth q.rows (fIdx (QR.pHeld b) q.rows).toNat).st = 2 ∧ (qL.nth q.rows (fIdx (QR.pHeld b) q.rows).toNat).ba = b := by
  rcases fIdx_cases (QR.pHeld b) q.rows with ⟨k, h1, h2, _, h3⟩ | ⟨_, h3⟩
  · rw [h3]
    simp only [Int.toNat_natCast]
    unfold QR.pHeld at h2
    simp only [Bool.and_eq_true, beq_iff_eq] at h2
    exact ⟨h1, h2⟩
  · omega

theorem ba_ne {q : QS} (hw : q.wf) {i k : Nat} (hi : i < q.rows.length) (hk : k < q.rows.length) (hik : i ≠ k) (h : 0 < (qL.nth q.rows k).ba) : (qL.nth q.rows i).ba ≠ (qL.nth q.rows k).ba := by
  rcases Nat.lt_or_ge i k with h1 | h1
  · exact hw.ba i k h1 hk h
  · intro e
    exact hw.ba k i (by omega) hi (by rw [e]; exact h) e.symm

theorem expire_wf {q : QS} (hw : q.wf) (b : Int) : (q.expire b).2.2.wf := by
  unfold QS.expire
  split
  · exact hw
  rename_i hneg
  obtain ⟨hk, hst, hba⟩ := held_facts hw hneg
  generalize (fIdx (QR.pHeld b) q.rows).toNat = k at hk hst hba
  obtain ⟨m1, m2, m3, m4, m5, m6, m7, m8⟩ := may_facts (hw.ok _ hk)
  rw [kb_iff] at m7
  refine wf_set hw hk (may_mk m1 m2 m3 m4 m5 m6 ?_ ?_) (fun h0 i hi hik => ba_ne hw hi hk hik h0)
  · rw [kb_iff]; exact ⟨.inr ⟨rfl, rfl⟩, .inr (m7.2.resolve_left (by omega))⟩
  · by_cases hge : q.att ≤ (qL.nth q.rows k).at_
    · rw [kc_4 (by simp only []; rw [if_pos hge])]; simp only [beq_iff_eq]; omega
    · rw [kc_1 (by simp only []; rw [if_neg hge])]; simp only [decide_eq_true_eq]; omega

theorem settle_wf {q : QS} (hw : q.wf) (b code bits : Int) : (q.settle b code bits).2.2.wf := by
  unfold QS.settle
  split
  · exact hw
  rename_i hneg
  split
  · exact hw
  rename_i hrs
  obtain ⟨hk, hst, hba⟩ := held_facts hw hneg
  generalize (fIdx (QR.pHeld b) q.rows).toNat = k at hk hst hba
  obtain ⟨m1, m2, m3, m4, m5, m6, m7, m8⟩ := may_facts (hw.ok _ hk)
  rw [kb_iff] at m7
  rw [kc_2 hst] at m8
  have hrs' : resB code bits = true := by cases h : resB code bits; exact absurd h hrs; rfl
  simp only [Bool.and_eq_true, decide_eq_true_eq] at m8
  refine wf_set hw hk (may_mk m1 m2 m3 m4 m5 m6 ?_ ?_) (fun h0 i hi hik => ba_ne hw hi hk hik h0)
  · rw [kb_iff]; exact ⟨.inr ⟨rfl, rfl⟩, .inl rfl⟩
  · rw [kc_3 rfl]; simp only [hrs', Bool.and_true, decide_eq_true_eq]; exact m8.1

theorem qnew_wf {n : Int} (h1 : 1 ≤ n) (h2 : n ≤ 8) : (⟨n, []⟩ : QS).wf := ⟨h1, h2, by simp, fun k hk => absurd hk (Nat.not_lt_zero _), fun i j _ hj => absurd hj (Nat.not_lt_zero _)⟩

end Go.Proofs.YtmgnekjhlfghaaaGreat

/-
  queue: Rows, Clone: what they tell, as things.
-/
namespace Go.Proofs.YtmgnekjhlfghaaaGreat
open Go.RowKit
set_option linter.unusedVariables false
set_option linter.unusedSimpArgs false

section
variable {W : Base} {w : World} {R : List Thing}

def RwT (a : Option Addr) (l : List QR) : Thing := InT 8 a l.length l.length (qL.at_ l)

theorem St.rw_ (H : St W w R) (i : Nat) {a : Option Addr} {l : List QR} (hi : R[i]? = some (RwT a l)) : In w 8 a l.length l.length (qL.at_ l) := H.in_ i hi

theorem st_rowsT (H : St W w R) (i : Nat) {Q : Nat} {q : QS} (hi : R[i]? = some (QkT Q q)) (hl : q.rows.length ≤ 8) :
    Calls Tryz.prog 30 #[.pointer (some ⟨Q, 0, none⟩)] w fun e w' => ∃ a, e = .returned (.slice a q.rows.length q.rows.length) ∧ St W w' (R ++ [RwT a q.rows]) := by
  refine (st_rows H i hi hl).mono ?_
  rintro e w' ⟨a, rfl, hF, hW, hb⟩
  refine ⟨a, rfl, H.new hF inferInstance ⟨rfl, hW.toIn (Nat.le_refl _) (by unfold maxLen; omega), fun p hp => ?_⟩ fun x hx => ?_⟩
  · subst hp
    rcases hW with ⟨h, _⟩ | ⟨g, cur, h, hh, _⟩
    · cases h
    · cases h; exact lt_of_block hh
  · simp only [Option.mem_toList, Option.map_eq_some_iff] at hx
    obtain ⟨p, rfl, rfl⟩ := hx
    rcases hW with ⟨h, _⟩ | ⟨g, cur, h, hh, _⟩
    · cases h
    · cases h; exact hb g 0 rfl

theorem st_qcloneT (H : St W w R) (i : Nat) {Q : Nat} {q : QS} (hi : R[i]? = some (QkT Q q)) (hl : q.rows.length ≤ 8) :
    Calls Tryz.prog 62 #[.pointer (some ⟨Q, 0, none⟩)] w fun e w' => ∃ C, e = .returned (.pointer (some ⟨C, 0, none⟩)) ∧ St W w' (R ++ [QkT C q]) :=
  (st_qclone H i hi hl).mono fun e w' ⟨C, h1, hF, F, hC, hb⟩ => ⟨C, h1, H.new hF inferInstance hC hb⟩

end
end Go.Proofs.YtmgnekjhlfghaaaGreat
