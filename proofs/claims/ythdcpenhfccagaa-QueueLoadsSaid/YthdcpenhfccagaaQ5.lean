/-
  Open, New, Submit of the package queue; what may be of a queue.
-/
import Derived.Test.YthdcpenhfccagaaQ4
import Derived.IntWalk
namespace Go.Proofs.Ythdcpenhfccagaa
open Go.RowKit
set_option linter.unusedVariables false
set_option linter.unusedSimpArgs false

/-- What may be. -/
structure QS.wf (q : QS) : Prop where
  a1 : 1 ≤ q.att
  a2 : q.att ≤ 8
  n : q.rows.length ≤ 8
  ok : ∀ k, k < q.rows.length → (qL.nth q.rows k).may q.att (k + 1) = true
  ba : ∀ i j, i < j → j < q.rows.length → 0 < (qL.nth q.rows j).ba → (qL.nth q.rows i).ba ≠ (qL.nth q.rows j).ba

theorem may_facts {att : Int} {r : QR} {j : Int} (h : r.may att j = true) : r.job = j ∧ 0 ≤ r.at_ ∧ r.at_ ≤ att ∧ 0 ≤ r.ba ∧ r.ba ≤ 1099511627776 ∧ (0 < r.ba ↔ 0 < r.at_) ∧ r.kb = true ∧ r.kc att = true := by
  unfold QR.may QR.ka inB at h
  simp only [Bool.and_eq_true, decide_eq_true_eq, beq_iff_eq, decide_eq_decide] at h
  obtain ⟨⟨⟨⟨⟨h1, h2, h3⟩, h4, h5⟩, h6⟩, h7⟩, h8⟩ := h
  exact ⟨h1, h2, h3, h4, h5, h6, h7, h8⟩

def opn (att : Int) (l : List QR) : Nat → Int × Int
  | 0 => (0, 0)
  | k + 1 => if (qL.nth l k).st = 1 ∨ (qL.nth l k).st = 2 then ((opn att l k).1 + 1, (opn att l k).2 + (att - (qL.nth l k).at_)) else opn att l k
def QS.opened (q : QS) : Int × Int := opn q.att q.rows q.rows.length

theorem opn_bd {q : QS} (hw : q.wf) (k : Nat) (hk : k ≤ q.rows.length) : 0 ≤ (opn q.att q.rows k).1 ∧ (opn q.att q.rows k).1 ≤ k ∧ 0 ≤ (opn q.att q.rows k).2 ∧ (opn q.att q.rows k).2 ≤ 8 * k := by
  induction k with
  | zero => simp [opn]
  | succ k ih =>
    obtain ⟨h1, h2, h3, h4⟩ := ih (by omega)
    have hm := may_facts (hw.ok k (by omega))
    have ha := hw.a2
    unfold opn
    split
    · simp only []; omega
    · omega

section
variable {W : Base} {w : World} {R : List Thing}

set_option maxHeartbeats 1600000 in
set_option maxRecDepth 100000 in
theorem st_open (H : St W w R) (i : Nat) {Q : Nat} {q : QS} (hi : R[i]? = some (QkT Q q)) (hw : q.wf) :
    Calls Try.prog 26 #[.pointer (some ⟨Q, 0, none⟩)] w fun e w' => e = .returned (.tuple #[.int .i64 q.opened.1, .int .i64 q.opened.2]) ∧ Fr [] w w' := by
  obtain ⟨a, c, h1, h2, _⟩ := H.qk i hi
  have c0 := cell_blk (i := 0) h1 rfl
  have c1 := cell_blk (i := 1) h1 rfl
  have hn8 := hw.n
  have ha1 := hw.a1
  have ha2 := hw.a2
  have HA := hid h2
  have HW := hid hw
  have hQ := lt_of_block h1
  clear h1 h2 hw
  go_enter Try.func26, Try.ntmps26
  go_wp2_with fail
  go_loopw [2, 3, 11] (fun u v i wr => ∃ k : Nat, k ≤ q.rows.length ∧ i = .int .i64 k ∧ u = .int .i64 (opn q.att q.rows k).1 ∧ v = .int .i64 (opn q.att q.rows k).2 ∧ Fr [] w wr) (fun _ _ i _ => q.rows.length - (intOf i).toNat)
  case atStart => exact ⟨0, Nat.zero_le _, rfl, rfl, rfl, Fr.refl _ _⟩
  case round =>
    obtain ⟨k, hk, rfl, rfl, rfl, hF⟩ := hrel
    obtain ⟨b1, b2, b3, b4⟩ := opn_bd HW.out k hk
    by_cases hlt : k < q.rows.length
    · obtain ⟨bb, ob, rfl⟩ := HA.out.sm (by omega)
      obtain ⟨r0, r1, r2, r3, r4, r5, r6, r7⟩ := qrow_cells (HA.out.fr0 hF) k hlt
      have c0' := hF.cell0 c0
      have hm := may_facts (HW.out.ok k hlt)
      have hm1 := hm.2.1
      have hm2 := hm.2.2.1
      have HO := hid (show opn q.att q.rows (k + 1) = if (qL.nth q.rows k).st = 1 ∨ (qL.nth q.rows k).st = 2 then ((opn q.att q.rows k).1 + 1, (opn q.att q.rows k).2 + (q.att - (qL.nth q.rows k).at_)) else opn q.att q.rows k from rfl)
      have hQr : Q < wr.heap.size := Nat.lt_of_lt_of_le hQ hF.size
      generalize qL.nth q.rows k = x at r0 r1 r2 r3 r4 r5 r6 r7 hm1 hm2 HO
      generalize hgo : opn q.att q.rows k = o at b1 b2 b3 b4 HO ⊢
      obtain ⟨o1, o2⟩ := o
      simp only [] at b1 b2 b3 b4
      clear hgo hm
      by_cases hs : x.st = 1 ∨ x.st = 2
      · have HS := hid (HO.out.trans (if_pos hs))
        have HF := hid (hF.alloc (.cells #[.int .i64 x.job, .int .i64 x.st, .int .i64 x.at_, .int .i64 x.ba, .int .i64 x.node, .int .i64 x.life, .int .i64 x.code, .int .u64 x.bits] 37))
        have e0 : (wr.alloc (.cells #[.int .i64 x.job, .int .i64 x.st, .int .i64 x.at_, .int .i64 x.ba, .int .i64 x.node, .int .i64 x.life, .int .i64 x.code, .int .u64 x.bits] 37)).cell? ⟨Q, 0, none⟩ = some (.int .i64 q.att) := ((Fr.refl [] _).alloc _).cell0 c0'
        have e1 : (wr.alloc (.cells #[.int .i64 x.job, .int .i64 x.st, .int .i64 x.at_, .int .i64 x.ba, .int .i64 x.node, .int .i64 x.life, .int .i64 x.code, .int .u64 x.bits] 37)).cell? ⟨wr.heap.size, 2, none⟩ = some (.int .i64 x.at_) := cell_blk (blk_alloc_at _ _ _ rfl) rfl
        by_cases hs1 : x.st = 1
        · have hs2 : (x.st == 1) = true := by rw [beq_iff_eq]; exact hs1
          clear hs hs1 hF
          go_wp2_with fail
          go_region_held3 (fun wx : World => wx.cell? ⟨Q, 0, none⟩ = some (.int .i64 q.att) ∧ wx.cell? ⟨wr.heap.size, 2, none⟩ = some (.int .i64 x.at_)) ((exact ⟨e0, e1⟩)) (fail)
          go_wp2_with fail
          go_roundw
          case rel =>
            have w1 : IntKind.i64.wrap (q.att - x.at_) = q.att - x.at_ := IntWalk.i64_in _ (by omega)
            have w2 : IntKind.i64.wrap (o2 + (q.att - x.at_)) = o2 + (q.att - x.at_) := IntWalk.i64_in _ (by omega)
            exact ⟨k + 1, by omega, by go_num, by rw [HS.out], by rw [HS.out, w1, w2], HF.out.drew⟩
          case measure => simp [intOf]; omega
        · have hs2 : (x.st == 1) = false := by rw [beq_eq_false_iff_ne]; exact hs1
          have hs3 : (x.st == 2) = true := by rw [beq_iff_eq]; omega
          clear hs hs1 hF
          go_wp2_with fail
          go_region_held3 (fun wx : World => wx.cell? ⟨Q, 0, none⟩ = some (.int .i64 q.att) ∧ wx.cell? ⟨wr.heap.size, 2, none⟩ = some (.int .i64 x.at_)) ((exact ⟨e0, e1⟩)) (fail)
          go_wp2_with fail
          go_roundw
          case rel =>
            have w1 : IntKind.i64.wrap (q.att - x.at_) = q.att - x.at_ := IntWalk.i64_in _ (by omega)
            have w2 : IntKind.i64.wrap (o2 + (q.att - x.at_)) = o2 + (q.att - x.at_) := IntWalk.i64_in _ (by omega)
            exact ⟨k + 1, by omega, by go_num, by rw [HS.out], by rw [HS.out, w1, w2], HF.out.drew⟩
          case measure => simp [intOf]; omega
      · have HS := hid (HO.out.trans (if_neg hs))
        have hs2 : (x.st == 1) = false := by rw [beq_eq_false_iff_ne]; omega
        have hs3 : (x.st == 2) = false := by rw [beq_eq_false_iff_ne]; omega
        have HF := hid (hF.alloc (.cells #[.int .i64 x.job, .int .i64 x.st, .int .i64 x.at_, .int .i64 x.ba, .int .i64 x.node, .int .i64 x.life, .int .i64 x.code, .int .u64 x.bits] 37))
        clear hs hF
        go_wp2_with fail
        go_roundw
        case rel => exact ⟨k + 1, by omega, by go_num, by rw [HS.out], by rw [HS.out], HF.out⟩
        case measure => simp [intOf]; omega
    · obtain rfl : k = q.rows.length := by omega
      go_wp2_with fail
      go_ret2
      exact ⟨rfl, hF⟩

theorem st_qnew (H : St W w R) (n : Int) (h1 : 1 ≤ n) (h2 : n ≤ 8) :
    Calls Try.prog 11 #[.int .i64 n] w fun e w' => ∃ Q, e = .returned (.tuple #[.pointer (some ⟨Q, 0, none⟩), .int .i64 0]) ∧ St W w' (R ++ [QkT Q ⟨n, []⟩]) := by
  have g1 : ¬ n < 1 := by omega
  have g2 : ¬ 8 < n := by omega
  have HH := hid H
  clear H
  go_enter Try.func11, Try.ntmps11
  go_wp2
  go_ret2
  exact ⟨_, rfl, HH.out.new (A := Qk1 w.heap.size ⟨n, []⟩) (F := [w.heap.size]) ((Fr.refl _ _).alloc _) inferInstance ⟨.slice none 0 0, rfl, blk_alloc_at _ _ _ rfl, World.ownsRow_nil _ _ _ _⟩ (by simp)⟩

def QS.submit (q : QS) : Int × Int × QS := if 8 ≤ q.rows.length then (0, 110, q) else ((q.rows.length : Int) + 1, 0, { q with rows := q.rows ++ [QR.mk (q.rows.length + 1) 1 0 0 0 0 0 0] })

set_option maxHeartbeats 1600000 in
set_option maxRecDepth 100000 in
theorem st_submit (H : St W w R) (i : Nat) {Q : Nat} {q : QS} (hi : R[i]? = some (QkT Q q)) (hl : q.rows.length ≤ 8) :
    Calls Try.prog 14 #[.pointer (some ⟨Q, 0, none⟩)] w fun e w' => e = .returned (.tuple #[.int .i64 q.submit.1, .int .i64 q.submit.2.1]) ∧ St W w' (R.set i (QkT Q q.submit.2.2)) := by
  have HS := hid (H.set_self hi)
  obtain ⟨F, ⟨rv, rfl, g1, g2⟩, _, hback⟩ := H.at i hi
  obtain ⟨a, c, rfl, _, _, _⟩ := own_slice g2
  have c1 := cell_blk (i := 1) g1 rfl
  have f1 : w.frozen? ⟨Q, 1, none⟩ = false := free_blk g1
  by_cases h8 : 8 ≤ q.rows.length
  · have e : q.submit = (0, 110, q) := by unfold QS.submit; rw [if_pos h8]
    rw [e]
    have h8' : (8 : Int) ≤ q.rows.length := by omega
    clear e g1 g2 hback H hi
    go_enter Try.func14, Try.ntmps14
    go_wp2
    go_ret2
    exact ⟨rfl, HS.out⟩
  have e : q.submit = ((q.rows.length : Int) + 1, 0, { q with rows := q.rows ++ [QR.mk (q.rows.length + 1) 1 0 0 0 0 0 0] }) := by unfold QS.submit; rw [if_neg h8]
  rw [e]
  have h8' : ¬ (8 : Int) ≤ q.rows.length := by omega
  obtain ⟨i0, hi0, hz0, hz1, hz2⟩ := info_parts info_qrow
  have HI := hid (And.intro hi0 (And.intro hz0 (And.intro hz1 hz2)))
  have hQo := ownsRow_ne g2 g1 (by decide)
  have HG := hid (And.intro g1 (And.intro g2 (And.intro hback hQo)))
  have hQ := lt_of_block g1
  clear e g1 g2 hback H hi HS hi0 hz0 hz1 hz2 hQo
  go_enter Try.func14, Try.ntmps14
  go_wp2_with (at_builtin; refine wpList_append_blk rfl (.tmp 21) (.tmp 24) 42 rfl 37 i0 (.agg #[.int .i64 0, .int .i64 0, .int .i64 0, .int .i64 0, .int .i64 0, .int .i64 0, .int .i64 0, .int .u64 0]) 8 64 Try.underlying42 HI.out.1 HI.out.2.1 HI.out.2.2.1 HI.out.2.2.2 rfl (by decide) (.slice a q.rows.length c) q.rows.length _ rfl (ownsRow_keep (S := []) HG.out.2.1 ((Fr.refl [] _).alloc _) (by simp)) ⟨w.heap.size, 0, none⟩ 1 1 (QR.f (QR.mk (q.rows.length + 1) 1 0 0 0 0 0 0)) rfl rfl ?qb ?qc ?qd ?qe ?_)
  case qb => exact fun j u h => h
  case qc => exact qL.one _
  case qd => unfold maxLen; omega
  case qe => omega
  intro v w2 ho hF hb hn
  obtain ⟨g, c', rfl, _⟩ := ownsRow_shape ho (by omega)
  have hX := hF.keep (blk_alloc_lt (.cells #[.int .i64 ((q.rows.length : Int) + 1), .int .i64 1, .int .i64 0, .int .i64 0, .int .i64 0, .int .i64 0, .int .i64 0, .int .u64 0] 37) HG.out.1) HG.out.2.2.2
  have e1 := cell_blk (i := 1) hX rfl
  have j1 := free_blk (i := 1) hX
  have hs : qL.cells q.rows ++ QR.f (QR.mk (q.rows.length + 1) 1 0 0 0 0 0 0) = qL.cells (q.rows ++ [QR.mk (q.rows.length + 1) 1 0 0 0 0 0 0]) := qL.snoc _ _
  rw [hs] at ho
  have HZ := hid (And.intro hX (And.intro ho (And.intro hF hb)))
  have hl2 := lt_of_block hX
  clear hX ho hF hb hn hs
  go_wp2_with fail
  go_ret2
  obtain ⟨z1, z2, z3, z4⟩ := HZ.out
  obtain ⟨y1, y2, hback, y4⟩ := HG.out
  have hFw : Fr (Q :: (Value.slice a q.rows.length c).ownBlock.toList) w w2 := ((Fr.refl _ w).alloc (.cells #[.int .i64 ((q.rows.length : Int) + 1), .int .i64 1, .int .i64 0, .int .i64 0, .int .i64 0, .int .i64 0, .int .i64 0, .int .u64 0] 37)).step z3 (fun x hx => .inl (List.mem_cons_of_mem _ hx))
  have hbb : ∀ x, x ∈ (Value.slice (some ⟨g, 0, none⟩) (q.rows.length + 1) c').ownBlock.toList → x ∈ (Value.slice a q.rows.length c).ownBlock.toList ∨ w.heap.size ≤ x := fun x hx => by
    rcases z4 x (by simpa using hx) with h | h
    · exact .inl (by simpa using h)
    · right; first | omega | (simp at h; omega)
  have hgQ : g ≠ Q := fun h => by
    rcases hbb g (by simp [Value.ownBlock]) with h1 | h1
    · rw [h] at h1; exact y4 h1
    · omega
  refine ⟨rfl, hback _ (Q :: (Value.slice (some ⟨g, 0, none⟩) (q.rows.length + 1) c').ownBlock.toList) (Qk1 Q { q with rows := q.rows ++ [QR.mk (q.rows.length + 1) 1 0 0 0 0 0 0] }) inferInstance ⟨.slice (some ⟨g, 0, none⟩) (q.rows.length + 1) c', rfl, ?_, ?_⟩ (hFw.setCell (.inl (by simp)) _) (fun x hx => ?_)⟩
  · rw [blk_setCell_at _ z1]; simp
  · simp only [List.length_append, List.length_singleton]
    exact ownsRow_keep (S := [Q]) z2 ((Fr.refl _ _).setCell (.inl (by simp)) _) (fun x hx => by simp [Value.ownBlock] at hx; subst hx; simpa using hgQ)
  · simp only [List.mem_cons] at hx ⊢
    rcases hx with rfl | hx
    · exact .inl (.inl rfl)
    · exact (hbb x hx).imp .inr id
end

end Go.Proofs.Ythdcpenhfccagaa
