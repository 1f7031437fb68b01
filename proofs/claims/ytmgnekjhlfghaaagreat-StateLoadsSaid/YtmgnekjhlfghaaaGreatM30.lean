/-
  Merged, in build order: SJ Ld0 Ld1 Ld2 Ld4 Ld5.
-/
import Derived.Test.YtmgnekjhlfghaaaGreatM25
import Derived.Test.YtmgnekjhlfghaaaGreatM18
import Derived.Test.YtmgnekjhlfghaaaGreatM19
import Derived.Test.YtmgnekjhlfghaaaGreatM24
/-
  state: what a change leaves of a job; what Find and Head tell: plain.
-/
namespace Go.Proofs.YtmgnekjhlfghaaaGreat
open Go.RowKit
set_option linter.unusedVariables false
set_option linter.unusedSimpArgs false

/-- A job that stood so may stand so now. -/
def Grown (a b : PV) : Prop := a.prog = b.prog ∧ a.r.job = b.r.job ∧ a.r.ba ≤ b.r.ba ∧ (if a.r.st = 3 ∨ a.r.st = 4 then a.r = b.r ∧ a.log = b.log else if a.r.ba ≠ b.r.ba then b.log = [] else a.log <+: b.log)
theorem Grown.refl (a : PV) : Grown a a := ⟨rfl, rfl, Int.le_refl _, by
  split
  · exact ⟨rfl, rfl⟩
  · rw [if_neg (fun h => h rfl)]; exact List.prefix_refl _⟩
theorem Grown.kept {a b : PV} (h1 : a.prog = b.prog) (h2 : a.r.job = b.r.job) (h3 : a.r.ba = b.r.ba) (h4 : ¬ (a.r.st = 3 ∨ a.r.st = 4)) (h5 : a.log <+: b.log) : Grown a b :=
  ⟨h1, h2, by omega, by rw [if_neg h4, if_neg (fun h => h h3)]; exact h5⟩
theorem getD_set {α : Type} {l : List α} {k j : Nat} {x d : α} (hk : k < l.length) : (l.set k x).getD j d = if j = k then x else l.getD j d := by
  by_cases h : j = k
  · subst h; rw [if_pos rfl, List.getD, List.getElem?_set_self hk]; rfl
  · rw [if_neg h, List.getD, List.getElem?_set_ne (Ne.symm h)]; rfl
/-- What a change does to the jobs that were there. -/
structure Grow (v u : SV) : Prop where
  res : v.res ≤ u.res
  n : v.q.rows.length ≤ u.q.rows.length
  job : ∀ k, k < v.q.rows.length → Grown (v.place k) (u.place k)
theorem Grow.refl (v : SV) : Grow v v := ⟨Int.le_refl _, Nat.le_refl _, fun k _ => Grown.refl _⟩
theorem place_eq {v u : SV} {k : Nat} (h1 : qL.nth v.q.rows k = qL.nth u.q.rows k) (h2 : sL.nth v.progs k = sL.nth u.progs k) (h3 : v.logs.getD k [] = u.logs.getD k []) : v.place k = u.place k := by
  unfold SV.place; rw [h1, h2, h3]
theorem held_row {q : QS} {b : Int} (h : ¬ fIdx (QR.pHeld b) q.rows < 0) : ∃ i : Nat, i < q.rows.length ∧ fIdx (QR.pHeld b) q.rows = i ∧ (qL.nth q.rows i).st = 2 := by
  rcases fIdx_cases (QR.pHeld b) q.rows with ⟨k, h1, h2, _, h3⟩ | ⟨_, h3⟩
  · refine ⟨k, h1, h3, ?_⟩
    simp only [QR.pHeld, Bool.and_eq_true, beq_iff_eq] at h2
    exact h2.1
  · rw [h3] at h; exact absurd (by decide) h
theorem grow_set {v : SV} {i : Nat} {x : QR} (hi : i < v.q.rows.length) (h1 : (qL.nth v.q.rows i).job = x.job) (h2 : (qL.nth v.q.rows i).ba = x.ba) (h3 : (qL.nth v.q.rows i).st = 2) : Grow v { v with q := { v.q with rows := v.q.rows.set i x } } := by
  refine ⟨Int.le_refl _, by simp, fun k hk => ?_⟩
  by_cases hki : k = i
  · subst hki
    have e : qL.nth (v.q.rows.set k x) k = x := by rw [qL.nth_set _ _ _ _ hk, if_pos rfl]
    refine Grown.kept rfl ?_ ?_ ?_ (List.prefix_refl _)
    · show (qL.nth v.q.rows k).job = (qL.nth (v.q.rows.set k x) k).job; rw [e]; exact h1
    · show (qL.nth v.q.rows k).ba = (qL.nth (v.q.rows.set k x) k).ba; rw [e]; exact h2
    · show ¬ ((qL.nth v.q.rows k).st = 3 ∨ (qL.nth v.q.rows k).st = 4); omega
  · rw [place_eq (v := v) (u := { v with q := { v.q with rows := v.q.rows.set i x } }) (k := k) (by show _ = qL.nth (v.q.rows.set i x) k; rw [qL.nth_set _ _ _ _ hi, if_neg hki]) rfl rfl]
    exact Grown.refl _
theorem grow_does {v u : SV} (hv : v.wf) {c : CV} (h : v.does c = some u) : Grow v u := by
  unfold SV.does at h
  split at h
  · unfold SV.reserve at h
    split at h
    · cases h
    · cases h; exact ⟨by show v.res ≤ c.n; omega, Nat.le_refl _, fun k _ => Grown.refl _⟩
  split at h
  · unfold SV.submit at h
    split at h
    · cases h
    · split at h
      · cases h
      · next he =>
        cases h
        have hr : v.q.submit.2.2 = { v.q with rows := v.q.rows ++ [QR.mk (v.q.rows.length + 1) 1 0 0 0 0 0 0] } := by
          unfold QS.submit at he ⊢
          split
          · next h8 => rw [if_pos h8] at he; exact (he (by simp)).elim
          · rfl
        refine ⟨Int.le_refl _, by rw [hr]; simp, fun k hk => ?_⟩
        rw [place_eq (v := v) (k := k) (u := { v with q := v.q.submit.2.2, progs := v.progs ++ [c.prog], logs := v.logs ++ [[]] }) ?_ ?_ ?_]
        · exact Grown.refl _
        · rw [hr]; show _ = qL.nth (v.q.rows ++ [_]) k; rw [qL.nth_snoc, if_neg (by omega)]
        · show _ = sL.nth (v.progs ++ [_]) k; rw [sL.nth_snoc, if_neg (by rw [hv.np]; omega)]
        · show _ = (v.logs ++ [[]]).getD k []; rw [List.getD, List.getD, List.getElem?_append_left (by rw [hv.nl]; exact hk)]
  split at h
  · unfold SV.grant at h
    split at h
    · cases h
    · split at h
      · cases h
      · next hb he =>
        cases h
        obtain ⟨hj, hst, hlt, hr⟩ : (1 ≤ c.job ∧ c.job ≤ v.q.rows.length) ∧ (qL.nth v.q.rows (c.job - 1).toNat).st = 1 ∧ fIdx (QR.pGrant c.badge) v.q.rows < 0 ∧ (v.q.grant c.job c.badge (2 + c.slot) c.life).2 = { v.q with rows := v.q.rows.set (c.job - 1).toNat { qL.nth v.q.rows (c.job - 1).toNat with st := 2, ba := c.badge, node := 2 + c.slot, life := c.life, at_ := (qL.nth v.q.rows (c.job - 1).toNat).at_ + 1 } } := by
          unfold QS.grant at he ⊢
          split
          · next h1 => rw [if_pos h1] at he; exact (he (by simp)).elim
          · next h1 =>
            rw [if_neg h1] at he
            split
            · next h2 => rw [if_pos h2] at he; exact (he (by simp)).elim
            · next h2 =>
              rw [if_neg h2] at he
              split
              · next h3 => rw [if_pos h3] at he; exact (he (by simp)).elim
              · next h3 =>
                rw [if_neg h3] at he
                split
                · next h4 => rw [if_pos h4] at he; exact (he (by simp)).elim
                · refine ⟨by omega, Classical.not_not.1 h2, ?_, rfl⟩
                  rcases Int.lt_or_le (fIdx (QR.pGrant c.badge) v.q.rows) 0 with h5 | h5
                  · exact h5
                  · exact absurd (.inr h5) h3
        obtain ⟨i, hi⟩ : ∃ i : Nat, (c.job - 1).toNat = i := ⟨_, rfl⟩
        rw [hi] at hst hr
        have hil : i < v.q.rows.length := by omega
        have hba : (qL.nth v.q.rows i).ba < c.badge := by
          rcases fIdx_cases (QR.pGrant c.badge) v.q.rows with ⟨k, _, _, _, h3⟩ | ⟨h3, _⟩
          · omega
          · have := h3 i hil
            simp only [QR.pGrant, decide_eq_false_iff_not] at this
            omega
        refine ⟨Int.le_refl _, by rw [hr]; simp, fun k hk => ?_⟩
        have hll : i < v.logs.length := by rw [hv.nl]; exact hil
        by_cases hki : k = i
        · subst hki
          have e1 : ({ v with q := (v.q.grant c.job c.badge (2 + c.slot) c.life).2, logs := v.logs.set (c.job - 1).toNat [] } : SV).place k = ⟨{ qL.nth v.q.rows k with st := 2, ba := c.badge, node := 2 + c.slot, life := c.life, at_ := (qL.nth v.q.rows k).at_ + 1 }, sL.nth v.progs k, []⟩ := by
            unfold SV.place
            rw [hr, hi]
            dsimp only
            rw [qL.nth_set _ _ _ _ hk, if_pos rfl, getD_set hll, if_pos rfl]
          rw [e1]
          refine ⟨rfl, rfl, by show (qL.nth v.q.rows k).ba ≤ c.badge; omega, ?_⟩
          rw [if_neg (by show ¬ ((qL.nth v.q.rows k).st = 3 ∨ (qL.nth v.q.rows k).st = 4); omega), if_pos (by show (qL.nth v.q.rows k).ba ≠ c.badge; omega)]
        · rw [place_eq (v := v) (k := k) (u := { v with q := (v.q.grant c.job c.badge (2 + c.slot) c.life).2, logs := v.logs.set (c.job - 1).toNat [] }) ?_ rfl ?_]
          · exact Grown.refl _
          · rw [hr]; dsimp only; rw [qL.nth_set _ _ _ _ hil, if_neg hki]
          · dsimp only; rw [hi, getD_set hll, if_neg hki]
  split at h
  · unfold SV.log at h
    split at h
    · cases h
    · split at h
      · cases h
      · split at h
        · cases h
        · next h1 h2 h3 =>
          cases h
          have hz : (v.q.find c.badge).2 = true := by simpa using h1
          obtain ⟨i, hi, hx, hjob⟩ := sfind_at (q := v.q) hv.q (b := c.badge) (x := (v.q.find c.badge).1) (by rw [← hz])
          have hil : ((v.q.find c.badge).1.job - 1).toNat = i := by omega
          have hll : i < v.logs.length := by rw [hv.nl]; exact hi
          have hst : (qL.nth v.q.rows i).st = 2 := by rw [← hx]; exact Classical.not_not.1 h2
          refine ⟨Int.le_refl _, Nat.le_refl _, fun k hk => ?_⟩
          by_cases hki : k = i
          · subst hki
            refine Grown.kept rfl rfl rfl (by show ¬ ((qL.nth v.q.rows k).st = 3 ∨ (qL.nth v.q.rows k).st = 4); omega) ?_
            show v.logs.getD k [] <+: (v.logs.set ((v.q.find c.badge).1.job - 1).toNat _).getD k []
            rw [hil, getD_set hll, if_pos rfl]
            exact List.prefix_append _ _
          · rw [place_eq (v := v) (k := k) (u := { v with logs := v.logs.set ((v.q.find c.badge).1.job - 1).toNat (v.logs.getD ((v.q.find c.badge).1.job - 1).toNat [] ++ c.texts) }) rfl rfl (by dsimp only; rw [hil, getD_set hll, if_neg hki])]
            exact Grown.refl _
  split at h
  · unfold SV.expire at h
    split at h
    · cases h
    · next he =>
      cases h
      unfold QS.expire at he ⊢
      split
      · next h1 => rw [if_pos h1] at he; exact (he (by simp)).elim
      · next h1 =>
        obtain ⟨i, hi, e, hst⟩ := held_row h1
        rw [e]
        exact grow_set hi rfl rfl hst
  · unfold SV.settle at h
    split at h
    · cases h
    · next he =>
      cases h
      unfold QS.settle at he ⊢
      split
      · next h1 => rw [if_pos h1] at he; exact (he (by simp)).elim
      · next h1 =>
        rw [if_neg h1] at he
        split
        · next h2 => rw [if_pos h2] at he; exact (he (by simp)).elim
        · obtain ⟨i, hi, e, hst⟩ := held_row h1
          rw [e]
          exact grow_set hi rfl rfl hst
theorem grow_put {v : SV} (hv : v.wf) (c : CV) : Grow v (v.put [c]) := by
  unfold SV.put
  rw [SV.go]
  split
  · next u h =>
    split at h
    · cases h
    · next v1 h1 =>
      cases h
      unfold SV.one at h1
      split at h1
      · exact grow_does hv h1
      · cases h1
  · exact Grow.refl _

/-! ### Find, Head -/
theorem ba_ne' {q : QS} (hw : q.wf) {i j : Nat} (hi : i < q.rows.length) (hj : j < q.rows.length) (hij : i ≠ j) (h0 : 0 < (qL.nth q.rows j).ba) : (qL.nth q.rows i).ba ≠ (qL.nth q.rows j).ba := by
  rcases Nat.lt_or_gt_of_ne hij with h | h
  · exact hw.ba i j h hj h0
  · intro e
    exact hw.ba j i h hi (by omega) e.symm
theorem find_ba {q : QS} (hw : q.wf) {k : Nat} (hk : k < q.rows.length) (h0 : 0 < (qL.nth q.rows k).ba) : q.find (qL.nth q.rows k).ba = (qL.nth q.rows k, true) := by
  unfold QS.find
  rw [fIdx_some (p := QR.pFind (qL.nth q.rows k).ba) hk (by simp [QR.pFind, h0]) (fun j hj => by simp only [QR.pFind, Bool.and_eq_false_iff, beq_eq_false_iff_ne]; exact .inl (ba_ne' hw (by omega) hk (by omega) h0))]
  unfold QS.row
  rw [if_neg (by omega), show ((k : Int) + 1 - 1).toNat = k by omega]
theorem find_none {q : QS} {b : Int} (h0 : ∀ k, k < q.rows.length → ¬ ((qL.nth q.rows k).ba = b ∧ 0 < b)) : q.find b = (.zero, false) := by
  unfold QS.find
  rw [fIdx_none (p := QR.pFind b) (fun k hk => by
    have := h0 k hk
    simp only [QR.pFind, Bool.and_eq_false_iff, beq_eq_false_iff_ne, decide_eq_false_iff_not]
    by_cases h : (qL.nth q.rows k).ba = b
    · exact .inr (fun h2 => this ⟨h, h2⟩)
    · exact .inl h)]
  unfold QS.row
  rw [if_pos (by omega)]
theorem sfind_ba {v : SV} (hv : v.wf) {k : Nat} (hk : k < v.q.rows.length) : v.sfind (qL.nth v.q.rows k).ba = if 0 < (qL.nth v.q.rows k).ba then (v.place k, true) else (.zero, false) := by
  unfold SV.sfind
  by_cases h0 : 0 < (qL.nth v.q.rows k).ba
  · rw [find_ba hv.q hk h0, if_pos rfl, if_pos h0]
    have := (may_facts (hv.q.ok k hk)).1
    rw [show ((qL.nth v.q.rows k).job - 1).toNat = k by omega]
  · rw [find_none (fun k _ => by omega), if_neg h0]; rfl
theorem sfind_no {v : SV} {b : Int} (h0 : ∀ k, k < v.q.rows.length → ¬ ((qL.nth v.q.rows k).ba = b ∧ 0 < b)) : v.sfind b = (.zero, false) := by
  unfold SV.sfind; rw [find_none h0]; rfl
/-- The head, found among the first rows. -/
def hdk (l : List QR) : Nat → Nat
  | 0 => 0
  | k + 1 => if (qL.nth l k).st = 1 ∧ hdk l k = 0 then k + 1 else hdk l k
theorem hdk_inv (l : List QR) : ∀ (k : Nat), hdk l k ≤ k ∧ (hdk l k = 0 → ∀ j, j < k → (qL.nth l j).st ≠ 1) ∧ ∀ i, hdk l k = i + 1 → i < k ∧ (qL.nth l i).st = 1 ∧ ∀ j, j < i → (qL.nth l j).st ≠ 1
  | 0 => ⟨Nat.le_refl _, fun _ j hj => absurd hj (Nat.not_lt_zero _), fun i h => by simp [hdk] at h⟩
  | k + 1 => by
    obtain ⟨h1, h2, h3⟩ := hdk_inv l k
    unfold hdk
    split
    · rename_i hs
      refine ⟨Nat.le_refl _, (fun h => by omega), fun i hi => ?_⟩
      obtain rfl : i = k := by omega
      exact ⟨by omega, hs.1, h2 hs.2⟩
    · rename_i hs
      refine ⟨by omega, fun h j hj => ?_, fun i hi => ?_⟩
      · by_cases hjk : j = k
        · subst hjk; exact fun h5 => hs ⟨h5, h⟩
        · exact h2 h j (by omega)
      · obtain ⟨a, b, c⟩ := h3 i hi; exact ⟨by omega, b, c⟩
theorem hdk_head (q : QS) : q.head = hdk q.rows q.rows.length := by
  obtain ⟨h1, h2, h3⟩ := hdk_inv q.rows q.rows.length
  unfold QS.head
  rcases Nat.eq_zero_or_pos (hdk q.rows q.rows.length) with h | h
  · rw [h, fIdx_none (p := QR.pHead) (fun k hk => by simp only [QR.pHead, beq_eq_false_iff_ne]; exact h2 h k hk)]; rfl
  · obtain ⟨i, hi⟩ : ∃ i, hdk q.rows q.rows.length = i + 1 := ⟨hdk q.rows q.rows.length - 1, by omega⟩
    obtain ⟨a, b, c⟩ := h3 i hi
    rw [hi, fIdx_some (p := QR.pHead) (k := i) a (by simp [QR.pHead, b]) (fun j hj => by simp only [QR.pHead, beq_eq_false_iff_ne]; exact c j hj)]
    push_cast; rfl
end Go.Proofs.YtmgnekjhlfghaaaGreat

/-
  state: Load: what is read, plain; End; row's numbers.
-/
namespace Go.Proofs.YtmgnekjhlfghaaaGreat
open Go.RowKit
set_option linter.unusedVariables false
set_option linter.unusedSimpArgs false

/-! ### What a reader that may have given up tells, and where it stands then -/
def RS.nG (s : RS) (m : Nat) : Nat := s.got 0 (rdMost s.b s.at_ m 21)
def RS.nF (s : RS) (m : Nat) : RS := s.face (rdMost s.b s.at_ m 21)
def RS.tG (s : RS) (m : Int) : ByteArray := s.got ⟨#[]⟩ (rdText s.b s.at_ m)
def RS.tF (s : RS) (m : Int) : RS := s.face (rdText s.b s.at_ m)
def RS.lG (s : RS) (m : Int) : Nat := s.got 0 (rdMost s.b s.at_ (max 0 m) 23)
def RS.lF (s : RS) (m : Int) : RS := s.face (rdMost s.b s.at_ (max 0 m) 23)
def RS.bG (s : RS) : Nat := s.got 0 (rdBits s.b s.at_)
def RS.bF (s : RS) : RS := s.face (rdBits s.b s.at_)
theorem face_wf {α : Type} {s : RS} {X : Except Int (α × Nat)} (hw : s.wf) (h : ∀ x p, X = .ok (x, p) → p ≤ s.b.size) : (s.face X).wf ∧ (s.face X).b = s.b := by
  unfold RS.face
  split
  · split
    · next n p => exact ⟨⟨h _ _ rfl, hw.mx⟩, rfl⟩
    · exact ⟨⟨hw.le, hw.mx⟩, rfl⟩
  · exact ⟨hw, rfl⟩
theorem RS.nF_wf {s : RS} (hw : s.wf) (m : Nat) : (s.nF m).wf := (face_wf hw fun x p h => (rdMost_p h).2).1
theorem RS.nF_b {s : RS} (m : Nat) : (s.nF m).b = s.b := by unfold RS.nF RS.face; split <;> (try split) <;> rfl
theorem RS.lF_wf {s : RS} (hw : s.wf) (m : Int) : (s.lF m).wf := (face_wf hw fun x p h => (rdMost_p h).2).1
theorem RS.tF_wf {s : RS} (hw : s.wf) (m : Int) : (s.tF m).wf := (face_wf hw fun x p h => rdText_p h).1
theorem RS.bF_wf {s : RS} (hw : s.wf) : (s.bF).wf := (face_wf hw fun x p h => rdBits_p h).1
theorem RS.nG_le (s : RS) (m : Nat) : s.nG m ≤ m := by
  unfold RS.nG RS.got
  split
  · split
    · next n p h => have := rdMost_le h; omega
    · exact Nat.zero_le _
  · exact Nat.zero_le _
theorem RS.lG_le (s : RS) {m : Int} (hm : 0 ≤ m) : (s.lG m : Int) ≤ m := by
  unfold RS.lG RS.got
  split
  · split
    · next n p h => have := rdMost_le h; omega
    · exact hm
  · exact hm
theorem RS.bG_lt (s : RS) : s.bG < 18446744073709551616 := by
  unfold RS.bG RS.got
  split
  · split
    · next n p h => exact (rdBits_iff.1 h).2
    · decide
  · decide
theorem RS.tG_le (s : RS) (hw : s.wf) {m : Int} (hm : 0 ≤ m) : ((s.tG m).size : Int) ≤ m := by
  unfold RS.tG RS.got
  split
  · split
    · next n p h => have h1 := hw.mx; exact ((rdText_iff hm (by omega)).1 h).2
    · exact hm
  · exact hm
def RS.end_ (s : RS) : Int × Int := if s.e = 0 ∧ s.at_ < s.b.size then (24, s.at_) else s.fault
/-- A row, read. -/
def RS.row (s : RS) (job : Int) : QR := ⟨job, s.nG 4, (s.nF 4).nG 8, ((s.nF 4).nF 8).nG 1099511627776, (((s.nF 4).nF 8).nF 1099511627776).nG 9, ((((s.nF 4).nF 8).nF 1099511627776).nF 9).nG 1099511627776, (((((s.nF 4).nF 8).nF 1099511627776).nF 9).nF 1099511627776).nG 7, ((((((s.nF 4).nF 8).nF 1099511627776).nF 9).nF 1099511627776).nF 7).bG⟩
def RS.rowF (s : RS) : RS := ((((((s.nF 4).nF 8).nF 1099511627776).nF 9).nF 1099511627776).nF 7).bF
theorem RS.rowF_wf {s : RS} (hw : s.wf) : s.rowF.wf := RS.bF_wf (RS.nF_wf (RS.nF_wf (RS.nF_wf (RS.nF_wf (RS.nF_wf (RS.nF_wf hw _) _) _) _) _) _)

section
variable {W : Base} {w : World} {R : List Thing}
set_option maxHeartbeats 1600000 in
theorem st_end (H : St W w R) (i : Nat) {r : Nat} {s : RS} (hi : R[i]? = some (RdT r s)) :
    Calls Tryz.prog 54 #[.pointer (some ⟨r, 0, none⟩)] w fun e w' => e = .returned (.tuple #[.int .i64 s.end_.1, .int .i64 s.end_.2]) ∧ St W w' R := by
  obtain ⟨c0, c1, c2, f, hl⟩ := H.rd i hi
  have HH := hid (fun m => H.drewN m)
  have hF := hid (fun m => st_fault (H.drewN m) i hi)
  clear H hi f
  unfold RS.end_
  by_cases h : s.e = 0
  · by_cases h2 : s.at_ < s.b.size
    · rw [if_pos ⟨h, h2⟩]
      rw [h] at c2
      have h3 : (s.at_ : Int) < s.b.size := by omega
      have h4 : decide ((s.at_ : Int) < s.b.size) = true := decide_eq_true h3
      clear h
      go_enter Tryz.func54, Tryz.ntmps54
      go_wp2_with fail
      go_quiet (fail)
      go_wp2_with fail
      go_quiet (fail)
      go_wp2_with fail
      go_ret2
      exact ⟨rfl, (HH.out _).drewN _⟩
    · rw [if_neg (fun h => h2 h.2)]
      rw [h] at c2
      have h3 : ¬ (s.at_ : Int) < s.b.size := by omega
      have h4 : decide ((s.at_ : Int) < s.b.size) = false := decide_eq_false h3
      generalize s.fault = z at hF ⊢
      clear h
      go_enter Tryz.func54, Tryz.ntmps54
      go_wp2_with fail
      go_quiet (fail)
      go_wp2_with (go_at_call 109; refine (hF.out _).mono ?_; rintro e w1 ⟨rfl, H1⟩)
      go_ret2
      exact ⟨rfl, H1⟩
  · rw [if_neg (fun h2 => h h2.1)]
    have e1 : (s.e == 0) = false := by rw [beq_eq_false_iff_ne]; exact h
    generalize s.fault = z at hF ⊢
    generalize s.e = y at c2 e1 h
    go_enter Tryz.func54, Tryz.ntmps54
    go_wp2_with fail
    go_quiet (fail)
    go_wp2_with (go_at_call 109; refine (hF.out _).mono ?_; rintro e w1 ⟨rfl, H1⟩)
    go_ret2
    exact ⟨rfl, H1⟩

theorem st_row1 (H : St W w R) (i : Nat) {r : Nat} {s : RS} (hi : R[i]? = some (RdT r s)) (hw : s.wf) {j bx : Nat} (hj : R[j]? = some (BlkT bx (.cells #[.pointer (some ⟨r, 0, none⟩)] 112))) (m : Nat) (hm : m ≤ 1099511627776) :
    Calls Tryz.prog 100 #[.int .u64 m, .pointer (some ⟨bx, 0, none⟩)] w fun e w' => e = .returned (.int .i64 (s.nG m : Nat)) ∧ St W w' (R.set i (RdT r (s.nF m))) := by
  have p0 : w.cell? ⟨bx, 0, none⟩ = some (.pointer (some ⟨r, 0, none⟩)) := cell_blk (H.blk j hj) rfl
  have hN := hid (show Calls Tryz.prog 50 #[.pointer (some ⟨r, 0, none⟩), .int .u64 m] w fun e w' => e = .returned (.int .u64 (s.nG m : Nat)) ∧ St W w' (R.set i (RdT r (s.nF m))) from st_Num H i hi hw (by omega))
  have hg := s.nG_le m
  generalize s.nG m = g at hN hg ⊢
  have hw1 : IntKind.i64.wrap (g : Int) = g := IntWalk.i64_in _ (by omega)
  clear H hi hj
  go_enter Tryz.func100, Tryz.ntmps100
  go_wp2_with (go_at_call 50; refine hN.out.mono ?_; rintro e w1 ⟨rfl, H1⟩; have H1 := hid H1)
  go_ret
  exact ⟨rfl, H1.out⟩
theorem enter_row1 (args : Array Value) (w : World) : (callFunc 100 args).run Tryz.prog w = .ok (.enter 100 args) w := run_enter Tryz.func100 (by kernel_rfl) rfl args w
end
end Go.Proofs.YtmgnekjhlfghaaaGreat

/-
  state: row.
-/
namespace Go.Proofs.YtmgnekjhlfghaaaGreat
open Go.RowKit
set_option linter.unusedVariables false
set_option linter.unusedSimpArgs false

section
variable {W : Base} {w : World} {R : List Thing}
abbrev rxO (r : Nat) : Obj := .cells #[.pointer (some ⟨r, 0, none⟩)] 112
abbrev rzO : Obj := .cells #[.int .i64 0, .int .i64 0, .int .i64 0, .int .i64 0, .int .i64 0, .int .i64 0, .int .i64 0, .int .u64 0] 51
theorem St.blk8 {T rest : List Thing} {b : Nat} {u0 u1 u2 u3 u4 u5 u6 u7 : Value} {t : TypeId} (v0 v1 v2 v3 v4 v5 v6 v7 : Value) (H : St W w (T ++ (BlkT b (.cells #[u0, u1, u2, u3, u4, u5, u6, u7] t) :: rest))) :
    St W ((((((((w.setCell ⟨b, 0, none⟩ v0).setCell ⟨b, 1, none⟩ v1).setCell ⟨b, 2, none⟩ v2).setCell ⟨b, 3, none⟩ v3).setCell ⟨b, 4, none⟩ v4).setCell ⟨b, 5, none⟩ v5).setCell ⟨b, 6, none⟩ v6).setCell ⟨b, 7, none⟩ v7) (T ++ (BlkT b (.cells #[v0, v1, v2, v3, v4, v5, v6, v7] t) :: rest)) := by
  have e : ∀ A B : Thing, (T ++ (A :: rest)).set T.length B = T ++ (B :: rest) := fun A B => by simp
  have g : ∀ A : Thing, (T ++ (A :: rest))[T.length]? = some A := fun A => by simp
  have h1 := H.setBlk T.length (g _) 0 v0
  simp only [e, List.setIfInBounds_toArray, List.set_cons_zero, List.set_cons_succ] at h1
  have h2 := h1.setBlk T.length (g _) 1 v1
  simp only [e, List.setIfInBounds_toArray, List.set_cons_zero, List.set_cons_succ] at h2
  have h3 := h2.setBlk T.length (g _) 2 v2
  simp only [e, List.setIfInBounds_toArray, List.set_cons_zero, List.set_cons_succ] at h3
  have h4 := h3.setBlk T.length (g _) 3 v3
  simp only [e, List.setIfInBounds_toArray, List.set_cons_zero, List.set_cons_succ] at h4
  have h5 := h4.setBlk T.length (g _) 4 v4
  simp only [e, List.setIfInBounds_toArray, List.set_cons_zero, List.set_cons_succ] at h5
  have h6 := h5.setBlk T.length (g _) 5 v5
  simp only [e, List.setIfInBounds_toArray, List.set_cons_zero, List.set_cons_succ] at h6
  have h7 := h6.setBlk T.length (g _) 6 v6
  simp only [e, List.setIfInBounds_toArray, List.set_cons_zero, List.set_cons_succ] at h7
  have h8 := h7.setBlk T.length (g _) 7 v7
  simp only [e, List.setIfInBounds_toArray, List.set_cons_zero, List.set_cons_succ] at h8
  exact h8
set_option maxHeartbeats 4000000 in
set_option maxRecDepth 100000 in
theorem st_srow (H : St W w R) (i : Nat) {r : Nat} {s : RS} (hi : R[i]? = some (RdT r s)) (hw : s.wf) (job : Int) :
    Calls Tryz.prog 51 #[.pointer (some ⟨r, 0, none⟩), .int .i64 job] w fun e w' => e = .returned (.agg (QR.f (s.row job)).toArray) ∧ St W w' (R.set i (RdT r s.rowF)) := by
  have hmf : ∀ (fn : Fn) (first cap : Array Value) (w : World), (Instr.makeFunc fn first cap).run Tryz.prog w = .ok (.func fn first cap) w := fun _ _ _ _ => rfl
  have hil := lt_of_get hi
  have hent := enter_row1
  have HC := hid (show ∀ (wx : World) (T : List Thing) (s' : RS), s'.wf → St W wx (R.set i (RdT r s') ++ (BlkT w.heap.size (rxO r) :: T)) → ∀ m : Nat, m ≤ 1099511627776 →
      Calls Tryz.prog 100 #[.int .u64 m, .pointer (some ⟨w.heap.size, 0, none⟩)] wx fun e w' => e = .returned (.int .i64 (s'.nG m : Nat)) ∧ St W w' (R.set i (RdT r (s'.nF m)) ++ (BlkT w.heap.size (rxO r) :: T)) from fun wx T s' hs' H' m hm => by
    have h := st_row1 H' i (r := r) (s := s') (by rw [List.getElem?_append_left (by simpa using hil), List.getElem?_set_self hil]) hs' (j := (R.set i (RdT r s')).length + 0) (bx := w.heap.size) (by rw [get_behind]; rfl) m hm
    rwa [List.set_append_left _ _ (by simpa using hil), List.set_set] at h)
  have HX := hid (show St W ((w.alloc (rxO r)).alloc rzO) (R.set i (RdT r s) ++ (BlkT w.heap.size (rxO r) :: [BlkT (w.heap.size + 1) rzO])) by
    have h := (H.alloc (rxO r)).allocAt rzO (w.heap.size + 1) (by simp)
    rw [List.append_assoc] at h
    rw [things_set_self hi]
    exact h)
  have HW := hid hw
  have HI := hid hi
  clear H hi hw
  go_enter Tryz.func51, Tryz.ntmps51
  go_wp2_with fail
  refine (HC.out _ _ _ HW.out HX.out 4 (by decide)).mono ?_
  rintro e w1 ⟨rfl, H1⟩
  have hw1 := RS.nF_wf HW.out 4
  have HA := hid (HC.out _ _ _ hw1 H1 8 (by decide))
  clear H1 HX
  go_wp2_with fail
  refine HA.out.mono ?_
  rintro e w2 ⟨rfl, H2⟩
  have hw2 := RS.nF_wf hw1 8
  have HB := hid (HC.out _ _ _ hw2 H2 1099511627776 (by decide))
  clear H2 HA
  go_wp2_with fail
  refine HB.out.mono ?_
  rintro e w3 ⟨rfl, H3⟩
  have hw3 := RS.nF_wf hw2 1099511627776
  obtain ⟨s3, hs3⟩ : ∃ s3, ((s.nF 4).nF 8).nF 1099511627776 = s3 := ⟨_, rfl⟩
  rw [hs3] at H3 hw3
  obtain ⟨g1, hg1⟩ : ∃ g1, s.nG 4 = g1 := ⟨_, rfl⟩
  obtain ⟨g2, hg2⟩ : ∃ g2, (s.nF 4).nG 8 = g2 := ⟨_, rfl⟩
  obtain ⟨g3, hg3⟩ : ∃ g3, ((s.nF 4).nF 8).nG 1099511627776 = g3 := ⟨_, rfl⟩
  rw [hg1, hg2, hg3]
  have H4 := H3.alloc (Obj.cells #[.int .i64 job, .int .i64 (g1 : Nat), .int .i64 (g2 : Nat), .int .i64 (g3 : Nat), .int .i64 0, .int .i64 0, .int .i64 0, .int .u64 0] 51)
  rw [List.append_assoc] at H4
  have HD := hid (HC.out _ _ _ hw3 H4 9 (by decide))
  have HGG := hid (And.intro hs3 (And.intro hg1 (And.intro hg2 hg3)))
  clear H3 H4 HB hw1 hw2 hs3 hg1 hg2 hg3
  go_wp2_with fail
  generalize w3.heap.size = xb at HD ⊢
  refine HD.out.mono ?_
  rintro e w5 ⟨rfl, H5⟩
  have hw5 := RS.nF_wf hw3 9
  have HE := hid (HC.out _ _ _ hw5 H5 1099511627776 (by decide))
  clear H5 HD
  go_wp2_with fail
  refine HE.out.mono ?_
  rintro e w6 ⟨rfl, H6⟩
  have hw6 := RS.nF_wf hw5 1099511627776
  obtain ⟨s5, hs5⟩ : ∃ s5, (s3.nF 9).nF 1099511627776 = s5 := ⟨_, rfl⟩
  rw [hs5] at H6 hw6
  obtain ⟨g4, hg4⟩ : ∃ g4, s3.nG 9 = g4 := ⟨_, rfl⟩
  obtain ⟨g5, hg5⟩ : ∃ g5, (s3.nF 9).nG 1099511627776 = g5 := ⟨_, rfl⟩
  rw [hg4, hg5]
  have hbx := H6.blk ((R.set i (RdT r s5)).length + 2) (by rw [get_behind]; rfl)
  have x4 := cell_blk (i := 4) hbx rfl
  have x5 := cell_blk (i := 5) hbx rfl
  have f4 := free_blk (i := 4) hbx
  have f5 := free_blk (i := 5) hbx
  have H7a := H6.setBlk ((R.set i (RdT r s5)).length + 2) (by rw [get_behind]; rfl) 4 (.int .i64 (g4 : Nat))
  rw [List.set_append_right _ _ (by omega), Nat.add_sub_cancel_left] at H7a
  have H7 := H7a.setBlk ((R.set i (RdT r s5)).length + 2) (by rw [get_behind]; rfl) 5 (.int .i64 (g5 : Nat))
  rw [List.set_append_right _ _ (by omega), Nat.add_sub_cancel_left] at H7
  have H7 := hid (show St W _ (R.set i (RdT r s5) ++ (BlkT w.heap.size (rxO r) :: [BlkT (w.heap.size + 1) rzO, BlkT xb (.cells #[.int .i64 job, .int .i64 (g1 : Nat), .int .i64 (g2 : Nat), .int .i64 (g3 : Nat), .int .i64 (g4 : Nat), .int .i64 (g5 : Nat), .int .i64 0, .int .u64 0] 51)])) from H7)
  have HGH := hid (And.intro hs5 (And.intro hg4 hg5))
  clear H6 H7a hbx HE hw3 hw5 hs5 hg4 hg5
  go_wp2_with fail
  have p0 := cell_blk (i := 0) (H7.out.blk ((R.set i (RdT r s5)).length + 0) (by rw [get_behind]; rfl)) rfl
  have HCC := hid (HC.out _ _ _ hw6 H7.out.drew 7 (by decide))
  have hw7 := hid (RS.nF_wf hw6 7)
  clear x4 x5 f4 f5
  refine wp_region_held_drew (S := fun wx : World => wx.cell? ⟨w.heap.size, 0, none⟩ = some (.pointer (some ⟨r, 0, none⟩))) (by kernel_rfl) p0 (fun hHeld => ?_)
  refine takeD (i := 0) (d := 22) (v := ?_) rfl rfl (by kernel_rfl) (by kernel_rfl) (by kernel_rfl) (fun _ _ _ h => h) (Or.inl ⟨by rfl, ?_⟩) hHeld ?_
  rotate_left
  · intro wq hSw; (try dsimp only at hSw); go_simp; all_goals (with_reducible rfl)
  simp only [Act.put, List.setIfInBounds_toArray, List.set_cons_zero, List.set_cons_succ]
  refine takeD (i := 2) (d := 24) (v := ?_) rfl rfl (by kernel_rfl) (by kernel_rfl) (by kernel_rfl) (fun _ _ _ h => h) (Or.inl ⟨by rfl, ?_⟩) hHeld ?_
  rotate_left
  · intro wq hSw; (try dsimp only at hSw); go_simp; all_goals (with_reducible rfl)
  simp only [Act.put, List.setIfInBounds_toArray, List.set_cons_zero, List.set_cons_succ]
  refine wpAnyH_ready (rs := [1]) (by kernel_rfl) (by simp) ?_
  refine AllReadyH.cons rfl (fun K hK => ?_) AllReadyH.nil
  go_simp
  go_at_call 100
  refine HCC.out.mono ?_
  rintro e w8 ⟨rfl, H8⟩
  have n8 : w8.cell? ⟨w.heap.size, 0, none⟩ = some (.pointer (some ⟨r, 0, none⟩)) := cell_blk (i := 0) (H8.blk ((R.set i (RdT r (s5.nF 7))).length + 0) (by rw [get_behind]; rfl)) rfl
  have H8 := hid H8
  refine hK.out _ _ n8 (fun hHeld => ?_)
  clear hK K p0
  refine wpAnyH_ready (rs := [3]) (by kernel_rfl) (by simp) ?_
  refine AllReadyH.cons rfl (fun K hK => ?_) AllReadyH.nil
  go_simp
  go_at_call 101
  refine (show Calls Tryz.prog 101 #[.pointer (some ⟨r, 0, none⟩)] w8 fun e w' => e = .returned (.int .u64 ((s5.nF 7).bG : Nat)) ∧ St W w' ((R.set i (RdT r (s5.nF 7)) ++ (BlkT w.heap.size (rxO r) :: [BlkT (w.heap.size + 1) rzO, BlkT xb (.cells #[.int .i64 job, .int .i64 (g1 : Nat), .int .i64 (g2 : Nat), .int .i64 (g3 : Nat), .int .i64 (g4 : Nat), .int .i64 (g5 : Nat), .int .i64 0, .int .u64 0] 51)])).set i (RdT r (s5.nF 7).bF)) from st_Bits H8.out i (r := r) (s := s5.nF 7) (by rw [List.getElem?_append_left (by simpa using hil), List.getElem?_set_self hil]) hw7.out).mono ?_
  rintro e w9 ⟨rfl, H9⟩
  rw [List.set_append_left _ _ (by simpa using hil), List.set_set] at H9
  obtain ⟨g6, hg6⟩ : ∃ g6, s5.nG 7 = g6 := ⟨_, rfl⟩
  obtain ⟨g7, hg7⟩ : ∃ g7, (s5.nF 7).bG = g7 := ⟨_, rfl⟩
  rw [hg6, hg7]
  have n9 : w9.cell? ⟨w.heap.size, 0, none⟩ = some (.pointer (some ⟨r, 0, none⟩)) := cell_blk (i := 0) (H9.blk ((R.set i (RdT r (s5.nF 7).bF)).length + 0) (by rw [get_behind]; rfl)) rfl
  have bX := H9.blk ((R.set i (RdT r (s5.nF 7).bF)).length + 2) (by rw [get_behind]; rfl)
  have q6 : w9.cell? ⟨xb, 6, none⟩ = some (.int .i64 0) := cell_blk (i := 6) bX rfl
  have q7 : w9.cell? ⟨xb, 7, none⟩ = some (.int .u64 0) := cell_blk (i := 7) bX rfl
  have j6 := free_blk (i := 6) bX
  have j7 := free_blk (i := 7) bX
  have H10a := H9.setBlk ((R.set i (RdT r (s5.nF 7).bF)).length + 2) (by rw [get_behind]; rfl) 6 (.int .i64 (g6 : Nat))
  rw [List.set_append_right _ _ (by omega), Nat.add_sub_cancel_left] at H10a
  have H10 := H10a.setBlk ((R.set i (RdT r (s5.nF 7).bF)).length + 2) (by rw [get_behind]; rfl) 7 (.int .u64 (g7 : Nat))
  rw [List.set_append_right _ _ (by omega), Nat.add_sub_cancel_left] at H10
  have H10 := hid (show St W _ (R.set i (RdT r (s5.nF 7).bF) ++ (BlkT w.heap.size (rxO r) :: [BlkT (w.heap.size + 1) rzO, BlkT xb (.cells #[.int .i64 job, .int .i64 (g1 : Nat), .int .i64 (g2 : Nat), .int .i64 (g3 : Nat), .int .i64 (g4 : Nat), .int .i64 (g5 : Nat), .int .i64 (g6 : Nat), .int .u64 (g7 : Nat)] 51)])) from H10)
  have HG7 := hid (And.intro hg6 hg7)
  clear H9 H10a bX hg6 hg7
  refine hK.out _ _ n9 (fun hHeld => ?_)
  clear hK K n8
  refine takeD (i := 4) (d := 26) (v := ?_) rfl rfl (by kernel_rfl) (by kernel_rfl) (by kernel_rfl) (fun _ _ _ h => h) (Or.inl ⟨by rfl, ?_⟩) hHeld ?_
  rotate_left
  · intro wq hSw; (try dsimp only at hSw); go_simp; all_goals (with_reducible rfl)
  simp only [Act.put, List.setIfInBounds_toArray, List.set_cons_zero, List.set_cons_succ]
  refine takeD (i := 5) (d := 27) (v := ?_) rfl rfl (by kernel_rfl) (by kernel_rfl) (by kernel_rfl) (fun _ _ _ h => h) (Or.inl ⟨by rfl, ?_⟩) hHeld ?_
  rotate_left
  · intro wq hSw; (try dsimp only at hSw); go_simp; all_goals (with_reducible rfl)
  simp only [Act.put, List.setIfInBounds_toArray, List.set_cons_zero, List.set_cons_succ]
  refine wpAnyH_ready (rs := [6]) (by kernel_rfl) (by simp) ?_
  refine AllReadyH.cons rfl (fun K hK => ?_) AllReadyH.nil
  go_simp
  have n10 := cell_blk (i := 0) (v := .pointer (some ⟨r, 0, none⟩)) (H10.out.blk ((R.set i (RdT r (s5.nF 7).bF)).length + 0) (by rw [get_behind]; rfl)) rfl
  refine hK.out _ _ n10 (fun _ => ?_)
  clear hK K n9 n10 hHeld q6 q7 j6 j7
  refine wpAnyH_done (by kernel_rfl) ?_ _
  generalize (w9.setCell ⟨xb, 6, none⟩ (.int .i64 (g6 : Nat))).setCell ⟨xb, 7, none⟩ (.int .u64 (g7 : Nat)) = w10 at H10 ⊢
  have hres : s.row job = ⟨job, g1, g2, g3, g4, g5, g6, g7⟩ ∧ s.rowF = (s5.nF 7).bF := by
    obtain ⟨a1, a2, a3, a4⟩ := HGG.out
    obtain ⟨a5, a6, a7⟩ := HGH.out
    obtain ⟨a8, a9⟩ := HG7.out
    subst a1 a5
    refine ⟨?_, rfl⟩
    unfold RS.row
    rw [a2, a3, a4, a6, a7, a8, a9]
  have HRES := hid hres
  clear hres HGG HGH HG7 HCC hw6 H7 H8 hw7
  go_upto_region 5 with (fail)
  go_cut [4] from 3 (fun s4 wx => s4 = .pointer (some ⟨w.heap.size + 1, 0, none⟩) ∧ wx.heap[w.heap.size + 1]? = some (.cells #[.int .i64 job, .int .i64 (g1 : Nat), .int .i64 (g2 : Nat), .int .i64 (g3 : Nat), .int .i64 (g4 : Nat), .int .i64 (g5 : Nat), .int .i64 (g6 : Nat), .int .u64 (g7 : Nat)] 51 (0, 0)) ∧ St W wx (R.set i (RdT r (s5.nF 7).bF)))
  case first =>
    have bX2 := H10.out.blk ((R.set i (RdT r (s5.nF 7).bF)).length + 2) (by rw [get_behind]; rfl)
    have bZ := H10.out.blk ((R.set i (RdT r (s5.nF 7).bF)).length + 1) (by rw [get_behind]; rfl)
    have xx0 := cell_blk (i := 0) bX2 rfl
    have xx1 := cell_blk (i := 1) bX2 rfl
    have xx2 := cell_blk (i := 2) bX2 rfl
    have xx3 := cell_blk (i := 3) bX2 rfl
    have xx4 := cell_blk (i := 4) bX2 rfl
    have xx5 := cell_blk (i := 5) bX2 rfl
    have xx6 := cell_blk (i := 6) bX2 rfl
    have xx7 := cell_blk (i := 7) bX2 rfl
    have zz0 : w10.cell? ⟨w.heap.size + 1, 0, none⟩ = some (.int .i64 0) := cell_blk bZ rfl
    have yy0 : w10.frozen? ⟨w.heap.size + 1, 0, none⟩ = false := free_blk bZ
    have zz1 : w10.cell? ⟨w.heap.size + 1, 1, none⟩ = some (.int .i64 0) := cell_blk bZ rfl
    have yy1 : w10.frozen? ⟨w.heap.size + 1, 1, none⟩ = false := free_blk bZ
    have zz2 : w10.cell? ⟨w.heap.size + 1, 2, none⟩ = some (.int .i64 0) := cell_blk bZ rfl
    have yy2 : w10.frozen? ⟨w.heap.size + 1, 2, none⟩ = false := free_blk bZ
    have zz3 : w10.cell? ⟨w.heap.size + 1, 3, none⟩ = some (.int .i64 0) := cell_blk bZ rfl
    have yy3 : w10.frozen? ⟨w.heap.size + 1, 3, none⟩ = false := free_blk bZ
    have zz4 : w10.cell? ⟨w.heap.size + 1, 4, none⟩ = some (.int .i64 0) := cell_blk bZ rfl
    have yy4 : w10.frozen? ⟨w.heap.size + 1, 4, none⟩ = false := free_blk bZ
    have zz5 : w10.cell? ⟨w.heap.size + 1, 5, none⟩ = some (.int .i64 0) := cell_blk bZ rfl
    have yy5 : w10.frozen? ⟨w.heap.size + 1, 5, none⟩ = false := free_blk bZ
    have zz6 : w10.cell? ⟨w.heap.size + 1, 6, none⟩ = some (.int .i64 0) := cell_blk bZ rfl
    have yy6 : w10.frozen? ⟨w.heap.size + 1, 6, none⟩ = false := free_blk bZ
    have zz7 : w10.cell? ⟨w.heap.size + 1, 7, none⟩ = some (.int .u64 0) := cell_blk bZ rfl
    have yy7 : w10.frozen? ⟨w.heap.size + 1, 7, none⟩ = false := free_blk bZ
    have hlz := lt_of_block bZ
    clear bX2 bZ
    go_wp2_with fail
    go_meet
    have H11 := St.blk8 (T := R.set i (RdT r (s5.nF 7).bF) ++ [BlkT w.heap.size (rxO r)]) (rest := [BlkT xb (.cells #[.int .i64 job, .int .i64 (g1 : Nat), .int .i64 (g2 : Nat), .int .i64 (g3 : Nat), .int .i64 (g4 : Nat), .int .i64 (g5 : Nat), .int .i64 (g6 : Nat), .int .u64 (g7 : Nat)] 51)]) (.int .i64 job) (.int .i64 (g1 : Nat)) (.int .i64 (g2 : Nat)) (.int .i64 (g3 : Nat)) (.int .i64 (g4 : Nat)) (.int .i64 (g5 : Nat)) (.int .i64 (g6 : Nat)) (.int .u64 (g7 : Nat)) (by
      rw [List.append_assoc]; exact H10.out)
    have hb := H11.blk ((R.set i (RdT r (s5.nF 7).bF) ++ [BlkT w.heap.size (rxO r)]).length + 0) (by rw [get_behind]; rfl)
    have hd := H11.drop.drop
    clear H11
    exact ⟨rfl, hb, hd⟩
  case rest =>
    obtain ⟨rfl, hb, hd⟩ := hcut
    have x0 := cell_blk (i := 0) hb rfl
    have x1 := cell_blk (i := 1) hb rfl
    have x2 := cell_blk (i := 2) hb rfl
    have x3 := cell_blk (i := 3) hb rfl
    have x4 := cell_blk (i := 4) hb rfl
    have x5 := cell_blk (i := 5) hb rfl
    have x6 := cell_blk (i := 6) hb rfl
    have x7 := cell_blk (i := 7) hb rfl
    have HD := hid hd
    clear hb hd
    go_wp2_with fail
    (try simp only [Exit.inBlock, Exit.then])
    refine bodyPost_ret (v := .agg #[.int .i64 job, .int .i64 (g1 : Nat), .int .i64 (g2 : Nat), .int .i64 (g3 : Nat), .int .i64 (g4 : Nat), .int .i64 (g5 : Nat), .int .i64 (g6 : Nat), .int .u64 (g7 : Nat)]) (by simp [results, Tryz.results51, go_sem, x0, x1, x2, x3, x4, x5, x6, x7]) rfl ?_
    exact ⟨by rw [HRES.out.1]; rfl, by rw [HRES.out.2]; exact HD.out⟩
end
end Go.Proofs.YtmgnekjhlfghaaaGreat

/-
  state: Load: what it makes of bytes: plain.
-/
namespace Go.Proofs.YtmgnekjhlfghaaaGreat
open Go.RowKit QLd
set_option linter.unusedVariables false
set_option linter.unusedSimpArgs false

/-- Texts, read one behind the other. -/
def txF (s : RS) : Nat → RS
  | 0 => s
  | k + 1 => (txF s k).tF 32
def tx (s : RS) : Nat → List ByteArray
  | 0 => []
  | k + 1 => tx s k ++ [(txF s k).tG 32]
theorem tx_len (s : RS) : ∀ k, (tx s k).length = k
  | 0 => rfl
  | k + 1 => by rw [tx, List.length_append, tx_len]; rfl
theorem txF_wf {s : RS} (hw : s.wf) : ∀ k, (txF s k).wf
  | 0 => hw
  | k + 1 => RS.tF_wf (txF_wf hw k) 32
structure JS where
  s : RS
  rows : List QR
  ps : List ByteArray
  ls : List (List ByteArray)
/-- One job more. -/
def JS.next (j : JS) (res : Int) (k : Nat) : Option JS :=
  let x := j.s.row ((k : Int) + 1)
  let s1 := j.s.rowF
  let p := s1.tG 1024
  let s2 := s1.tF 1024
  let n := s2.lG 32
  let s3 := s2.lF 32
  if res < x.ba ∨ p.size = 0 ∨ (x.at_ = 0 ∧ 0 < n) then none else some ⟨txF s3 n, j.rows ++ [x], j.ps ++ [p], j.ls ++ [tx s3 n]⟩
/-- So many jobs. -/
def jb (res : Int) (s : RS) : Nat → Option JS
  | 0 => some ⟨s, [], [], []⟩
  | k + 1 => (jb res s k).bind fun j => j.next res k
theorem jb_none {res : Int} {s : RS} {k : Nat} (h : jb res s k = none) : ∀ m, k ≤ m → jb res s m = none := by
  intro m hm
  induction m with
  | zero => have : k = 0 := by omega
            subst this; exact h
  | succ m ih =>
    by_cases hk : k = m + 1
    · subst hk; exact h
    · rw [jb, ih (by omega)]; rfl
/-- What Load makes of bytes. -/
noncomputable def loadS (n : Int) (b : ByteArray) : Option SV :=
  let s0 : RS := ⟨b, 0, 0⟩
  let res := s0.nG 1099511627776
  let s1 := s0.nF 1099511627776
  let m := s1.nG 8
  (jb res (s1.nF 8) m).bind fun j => if j.s.end_.1 ≠ 0 then none else open Classical in if (⟨n, j.rows⟩ : QS).wf then some ⟨⟨n, j.rows⟩, res, j.ps, j.ls⟩ else none
/-- What a job's row is within. -/
structure JS.ok (j : JS) (k : Nat) : Prop where
  wf : j.s.wf
  rows : j.rows.length = k
  ps : j.ps.length = k
  ls : j.ls.length = k
theorem JS.next_ok {j u : JS} {res : Int} {k : Nat} (hj : j.ok k) (h : j.next res k = some u) : u.ok (k + 1) := by
  unfold JS.next at h
  dsimp only at h
  split at h
  · cases h
  · cases h
    exact ⟨txF_wf (RS.lF_wf (RS.tF_wf (RS.rowF_wf hj.wf) _) _) _, by simp [hj.rows], by simp [hj.ps], by simp [hj.ls]⟩
end Go.Proofs.YtmgnekjhlfghaaaGreat

/-
  state: Load of a state's bytes is that state: plain.
-/
namespace Go.Proofs.YtmgnekjhlfghaaaGreat
open Go.RowKit
set_option linter.unusedVariables false
set_option linter.unusedSimpArgs false

theorem n_ok {b : ByteArray} {p q n m : Nat} (h : Rds b p (bl (nf n)) q) (hn : n ≤ m) (hm : m < 18446744073709551616) : RS.nG ⟨b, p, 0⟩ m = n ∧ RS.nF ⟨b, p, 0⟩ m = ⟨b, q, 0⟩ := by
  have e : rdMost b p (m : Int) 21 = .ok (n, q) := rdMost_iff.2 ⟨h, by omega, by omega⟩
  constructor
  · unfold RS.nG RS.got; rw [if_pos rfl]; dsimp only; rw [e]
  · unfold RS.nF RS.face; rw [if_pos rfl]; dsimp only; rw [e]
theorem l_ok {b : ByteArray} {p q n : Nat} (h : Rds b p (bl (nf n)) q) (hn : n ≤ 32) : RS.lG ⟨b, p, 0⟩ 32 = n ∧ RS.lF ⟨b, p, 0⟩ 32 = ⟨b, q, 0⟩ := by
  have e : rdMost b p (max 0 32 : Int) 23 = .ok (n, q) := rdMost_iff.2 ⟨h, by rw [show (max 0 32 : Int) = 32 from rfl]; omega, by omega⟩
  constructor
  · unfold RS.lG RS.got; rw [if_pos rfl]; dsimp only; rw [e]
  · unfold RS.lF RS.face; rw [if_pos rfl]; dsimp only; rw [e]
theorem t_ok {b : ByteArray} (hb : b.size ≤ 140737488355328) {p q : Nat} {t : ByteArray} {m : Int} (hm : 0 ≤ m) (h : Rds b p (bl (tf t)) q) (ht : (t.size : Int) ≤ m) : RS.tG ⟨b, p, 0⟩ m = t ∧ RS.tF ⟨b, p, 0⟩ m = ⟨b, q, 0⟩ := by
  have e : rdText b p m = .ok (t, q) := (rdText_iff hm (by omega)).2 ⟨h, ht⟩
  constructor
  · unfold RS.tG RS.got; rw [if_pos rfl]; dsimp only; rw [e]
  · unfold RS.tF RS.face; rw [if_pos rfl]; dsimp only; rw [e]
theorem b_ok {b : ByteArray} {p q n : Nat} (h : Rds b p (bl (bf n)) q) (hn : n < 18446744073709551616) : RS.bG ⟨b, p, 0⟩ = n ∧ RS.bF ⟨b, p, 0⟩ = ⟨b, q, 0⟩ := by
  have e : rdBits b p = .ok (n, q) := rdBits_iff.2 ⟨h, hn⟩
  constructor
  · unfold RS.bG RS.got; rw [if_pos rfl]; dsimp only; rw [e]
  · unfold RS.bF RS.face; rw [if_pos rfl]; dsimp only; rw [e]
theorem tx_ok {b : ByteArray} (hb : b.size ≤ 140737488355328) : ∀ (l : List ByteArray) {p q : Nat}, (∀ t, t ∈ l → t.size ≤ 32) → Rds b p (l.flatMap fun t => bl (tf t)) q → ∀ k, k ≤ l.length → ∃ r, tx ⟨b, p, 0⟩ k = l.take k ∧ txF ⟨b, p, 0⟩ k = ⟨b, r, 0⟩ ∧ Rds b r ((l.drop k).flatMap fun t => bl (tf t)) q := by
  intro l p q hl h k
  induction k with
  | zero => exact fun _ => ⟨p, rfl, rfl, h⟩
  | succ k ih =>
    intro hk
    obtain ⟨r, h1, h2, h3⟩ := ih (by omega)
    rw [List.drop_eq_getElem_cons (show k < l.length by omega), List.flatMap_cons] at h3
    obtain ⟨r2, h4, h5⟩ := Rds.append.1 h3
    have h6 := t_ok hb (m := 32) (by decide) h4 (by have := hl _ (List.getElem_mem (show k < l.length by omega)); omega)
    refine ⟨r2, ?_, ?_, h5⟩
    · rw [tx, h1, h2, h6.1, List.take_add_one, List.getElem?_eq_getElem (show k < l.length by omega)]; rfl
    · rw [txF, h2, h6.2]
theorem row_ok {b : ByteArray} {p q : Nat} {x : QR} (h : Rds b p ((rowN x).flatMap (fun n => bl (nf n.toNat)) ++ bl (bf x.bits.toNat)) q)
    (h1 : 0 ≤ x.st ∧ x.st ≤ 4) (h2 : 0 ≤ x.at_ ∧ x.at_ ≤ 8) (h3 : 0 ≤ x.ba ∧ x.ba ≤ 1099511627776) (h4 : 0 ≤ x.node ∧ x.node ≤ 9) (h5 : 0 ≤ x.life ∧ x.life ≤ 1099511627776) (h6 : 0 ≤ x.code ∧ x.code ≤ 7) (h7 : 0 ≤ x.bits ∧ x.bits < 18446744073709551616) :
    RS.row ⟨b, p, 0⟩ x.job = x ∧ RS.rowF ⟨b, p, 0⟩ = ⟨b, q, 0⟩ := by
  unfold rowN at h
  simp only [List.flatMap_cons, List.flatMap_nil, List.append_nil, List.append_assoc] at h
  obtain ⟨p1, r1, h⟩ := Rds.append.1 h
  obtain ⟨p2, r2, h⟩ := Rds.append.1 h
  obtain ⟨p3, r3, h⟩ := Rds.append.1 h
  obtain ⟨p4, r4, h⟩ := Rds.append.1 h
  obtain ⟨p5, r5, h⟩ := Rds.append.1 h
  obtain ⟨p6, r6, h⟩ := Rds.append.1 h
  have e1 := n_ok (m := 4) r1 (by omega) (by decide)
  have e2 := n_ok (m := 8) r2 (by omega) (by decide)
  have e3 := n_ok (m := 1099511627776) r3 (by omega) (by decide)
  have e4 := n_ok (m := 9) r4 (by omega) (by decide)
  have e5 := n_ok (m := 1099511627776) r5 (by omega) (by decide)
  have e6 := n_ok (m := 7) r6 (by omega) (by decide)
  have e7 := b_ok h (by omega)
  unfold RS.row RS.rowF
  rw [e1.2, e2.2, e3.2, e4.2, e5.2, e6.2]
  refine ⟨?_, e7.2⟩
  rw [e1.1, e2.1, e3.1, e4.1, e5.1, e6.1, e7.1]
  cases x
  simp only at h1 h2 h3 h4 h5 h6 h7
  simp only [QR.mk.injEq]
  refine ⟨trivial, ?_, ?_, ?_, ?_, ?_, ?_, ?_⟩ <;> omega
theorem jb_ok {v : SV} (hv : v.wf) {b : ByteArray} (hb : b.size ≤ 140737488355328) {p0 : Nat} : ∀ (k : Nat) {q : Nat}, k ≤ v.q.rows.length → Rds b p0 ((List.range k).flatMap v.job) q →
    jb v.res ⟨b, p0, 0⟩ k = some ⟨⟨b, q, 0⟩, v.q.rows.take k, v.progs.take k, v.logs.take k⟩ := by
  intro k
  induction k with
  | zero =>
    intro q _ h
    obtain ⟨rfl, _⟩ := Rds.nil.1 h
    rfl
  | succ k ih =>
    intro q hk h
    rw [List.range_succ, List.flatMap_append] at h
    obtain ⟨r, ha, hc⟩ := Rds.append.1 h
    simp only [List.flatMap_cons, List.flatMap_nil, List.append_nil] at hc
    unfold SV.job jobB at hc
    have hk1 : k < v.q.rows.length := by omega
    have hkp : k < v.progs.length := by rw [hv.np]; exact hk1
    have hkl : k < v.logs.length := by rw [hv.nl]; exact hk1
    have hm := hv.q.ok k hk1
    obtain ⟨m1, m2, m3, m4, m5, _, _, _⟩ := may_facts hm
    have hf := row_facts hv hk1
    obtain ⟨s1, s2, s3, s4⟩ := row_small hv hk1
    have hbd := hv.bd _ (qL.mem_nth hk1)
    have hbt := hv.bt _ (qL.mem_nth hk1)
    have hlf := hf.1 (qL.nth v.q.rows k).life (by simp [rowN])
    have hpn : sL.nth v.progs k = v.progs[k] := by have := sL.nth_get hkp; rw [List.getElem?_eq_getElem hkp] at this; exact (Option.some.inj this).symm
    have hpr := hv.pr _ (List.getElem_mem hkp)
    have hln : v.logs.getD k [] = v.logs[k] := by rw [List.getD_eq_getElem?_getD, List.getElem?_eq_getElem hkl]; rfl
    have hlg := hv.lg _ (List.getElem_mem hkl)
    have hat := hv.at0 k hk1
    have hqn : v.q.rows[k]? = some (qL.nth v.q.rows k) := qL.nth_get hk1
    rw [hln] at hc hat
    rw [hpn] at hc
    have hpk : v.progs[k]? = some v.progs[k] := List.getElem?_eq_getElem hkp
    have hlk : v.logs[k]? = some v.logs[k] := List.getElem?_eq_getElem hkl
    generalize v.progs[k] = pr at hc hpr hpk
    generalize v.logs[k] = lg at hc hlg hat hlk
    generalize qL.nth v.q.rows k = x at *
    obtain ⟨r1, g1, g⟩ := Rds.append.1 hc
    obtain ⟨r4, g, g5⟩ := Rds.append.1 g
    rw [bl_app, bl_app] at g
    obtain ⟨r3, g, g4⟩ := Rds.append.1 g
    obtain ⟨r2, g2, g3⟩ := Rds.append.1 g
    have hrow := row_ok (Rds.append.2 ⟨r1, g1, g2⟩) s1 s2 ⟨m4, m5⟩ s3 hlf s4 hbt
    have ht := t_ok hb (m := 1024) (by decide) g3 (by omega)
    have hl := l_ok g4 hlg.1
    obtain ⟨r5, x1, x2, x3⟩ := tx_ok hb lg hlg.2 g5 lg.length (Nat.le_refl _)
    rw [List.drop_length, List.flatMap_nil] at x3
    obtain ⟨rfl, _⟩ := Rds.nil.1 x3
    rw [List.take_length] at x1
    rw [m1] at hrow
    rw [jb, ih (by omega) ha]
    show JS.next ⟨⟨b, r, 0⟩, v.q.rows.take k, v.progs.take k, v.logs.take k⟩ v.res k = _
    unfold JS.next
    dsimp only
    rw [hrow.1, hrow.2, ht.1, ht.2, hl.1, hl.2, x1, x2]
    rw [if_neg, List.take_add_one, List.take_add_one, List.take_add_one, hqn, hpk, hlk]
    · rfl
    · rintro (h | h | ⟨h1, h2⟩)
      · omega
      · omega
      · have := hat h1
        rw [this] at h2
        exact absurd h2 (by decide)
/-- Load of a state's bytes is that state. -/
theorem loadS_bytes {v : SV} (hv : v.wf) : loadS v.q.att ⟨v.bytes.toArray⟩ = some v := by
  have hsz : (⟨v.bytes.toArray⟩ : ByteArray).size = v.bytes.length := by simp [ByteArray.size]
  have hle := bytes_le hv
  have hb : (⟨v.bytes.toArray⟩ : ByteArray).size ≤ 140737488355328 := by omega
  have h0 : Rds ⟨v.bytes.toArray⟩ 0 v.bytes v.bytes.length := ⟨by rw [bl_mk]; simp, by simp, by omega⟩
  generalize hbb : (⟨v.bytes.toArray⟩ : ByteArray) = b at *
  unfold SV.bytes SV.head at h0
  rw [bl_app] at h0
  obtain ⟨p2, h1, h2⟩ := Rds.append.1 h0
  obtain ⟨p1, h3, h4⟩ := Rds.append.1 h1
  have hr := hv.res
  have hn8 := hv.q.n
  have hnp := hv.np
  have e1 := n_ok (m := 1099511627776) h3 (by omega) (by decide)
  have e2 := n_ok (m := 8) h4 (by omega) (by decide)
  have ej := jb_ok hv hb v.q.rows.length (Nat.le_refl _) h2
  unfold loadS
  dsimp only
  rw [e1.1, e1.2, e2.1, e2.2, show ((v.res.toNat : Nat) : Int) = v.res by omega, hnp, ej]
  rw [Option.bind_some]
  dsimp only
  rw [if_neg, List.take_length, List.take_of_length_le (by omega), List.take_of_length_le (by have := hv.nl; omega), if_pos hv.q]
  intro h
  apply h
  unfold RS.end_
  rw [if_neg (by intro h5; have := h5.2; simp only at this; rw [hsz] at this; unfold SV.bytes SV.head at this; rw [bl_app] at this; omega)]
  rfl
end Go.Proofs.YtmgnekjhlfghaaaGreat

/-
  state: what shows the same is the same; its attempts stay: plain.
-/
namespace Go.Proofs.YtmgnekjhlfghaaaGreat
open Go.RowKit
set_option linter.unusedVariables false
set_option linter.unusedSimpArgs false

theorem does_att {v u : SV} {c : CV} (h : v.does c = some u) : u.q.att = v.q.att := by
  unfold SV.does at h
  split at h
  · unfold SV.reserve at h; split at h; (cases h); (cases h; rfl)
  · split at h
    · unfold SV.submit at h
      split at h
      · cases h
      · split at h
        · cases h
        · cases h; show v.q.submit.2.2.att = _; unfold QS.submit; split <;> rfl
    · split at h
      · unfold SV.grant at h
        split at h
        · cases h
        · split at h
          · cases h
          · cases h; show (v.q.grant _ _ _ _).2.att = _; unfold QS.grant; (repeat' split) <;> rfl
      · split at h
        · unfold SV.log at h
          split at h
          · cases h
          · split at h
            · cases h
            · split at h
              · cases h
              · cases h; rfl
        · split at h
          · unfold SV.expire at h
            split at h
            · cases h
            · cases h; show (v.q.expire _).2.2.att = _; unfold QS.expire; split <;> rfl
          · unfold SV.settle at h
            split at h
            · cases h
            · cases h; show (v.q.settle _ _ _).2.2.att = _; unfold QS.settle; (repeat' split) <;> rfl
theorem go_att : ∀ (l : List CV) {v u : SV} {i : Nat}, v.go l i = .ok u → u.q.att = v.q.att
  | [], v, u, i, h => by cases h; rfl
  | c :: l, v, u, i, h => by
    unfold SV.go at h
    split at h
    · cases h
    · next v' h1 =>
      rw [go_att l h]
      unfold SV.one at h1
      split at h1
      · exact does_att h1
      · cases h1
theorem put_att (v : SV) (l : List CV) : (v.put l).q.att = v.q.att := by
  unfold SV.put
  split
  · next u h => exact go_att l h
  · rfl
/-- The bytes as one text. -/
def SV.text (v : SV) : ByteArray := ⟨v.bytes.toArray⟩
theorem text_inj {v u : SV} (hv : v.wf) (hu : u.wf) (ha : v.q.att = u.q.att) (h : v.text = u.text) : v = u := by
  have h1 := loadS_bytes hv
  have h2 := loadS_bytes hu
  rw [ha, show (⟨v.bytes.toArray⟩ : ByteArray) = ⟨u.bytes.toArray⟩ from h, h2] at h1
  exact (Option.some.inj h1).symm
theorem places_inj {v u : SV} (hv : v.wf) (hu : u.wf) (ha : v.q.att = u.q.att) (hr : v.res = u.res) (h : v.places = u.places) : v = u := by
  have hlen : v.q.rows.length = u.q.rows.length := by have := congrArg List.length h; simpa [SV.places] using this
  have hk : ∀ k, k < v.q.rows.length → v.place k = u.place k := fun k hk => by
    have h1 := congrArg (fun m => m[k]?) h
    simpa [SV.places, List.getElem?_range hk, List.getElem?_range (show k < u.q.rows.length by omega)] using h1
  have e1 : v.q.rows = u.q.rows := qL.ext hlen (fun k h => congrArg PV.r (hk k h))
  have e2 : v.progs = u.progs := sL.ext (by rw [hv.np, hu.np, hlen]) (fun k h => congrArg PV.prog (hk k (by rw [← hv.np]; exact h)))
  have e3 : v.logs = u.logs := by
    refine List.ext_getElem? fun k => ?_
    by_cases h1 : k < v.q.rows.length
    · have h2 := congrArg PV.log (hk k h1)
      unfold SV.place at h2
      simp only at h2
      have h3 : k < v.logs.length := by rw [hv.nl]; exact h1
      have h4 : k < u.logs.length := by rw [hu.nl]; omega
      rw [List.getD_eq_getElem?_getD, List.getD_eq_getElem?_getD, List.getElem?_eq_getElem h3, List.getElem?_eq_getElem h4] at h2
      rw [List.getElem?_eq_getElem h3, List.getElem?_eq_getElem h4]
      exact congrArg some h2
    · rw [List.getElem?_eq_none (by rw [hv.nl]; omega), List.getElem?_eq_none (by rw [hu.nl]; omega)]
  obtain ⟨⟨a1, r1⟩, s1, p1, l1⟩ := v
  obtain ⟨⟨a2, r2⟩, s2, p2, l2⟩ := u
  simp only at ha hr e1 e2 e3
  subst ha hr e1 e2 e3
  rfl
theorem text_small {v : SV} (hv : v.wf) : v.text.size ≤ 140737488355328 := by
  have h1 := bytes_le hv
  have h2 : v.text.size = v.bytes.length := by simp [SV.text, ByteArray.size]
  omega
theorem loadS_text {v : SV} (hv : v.wf) {n : Int} (hn : v.q.att = n) : loadS n v.text = some v := by rw [← hn]; exact loadS_bytes hv
theorem ret_ints (v : SV) (l : List CV) : ∃ r1 r2 : Int, v.ret l = .tuple #[.int .i64 r1, .int .i64 r2] := by
  unfold SV.ret
  split
  · exact ⟨_, _, rfl⟩
  · exact ⟨_, _, rfl⟩
section
variable {W : Base} {w : World} {R : List Thing}
theorem st_applyR (H : St W w R) (i : Nat) {S : Nat} {v : SV} (hi : R[i]? = some (SkT S v)) (hv : v.wf) (a : Option Addr) (n cap : Nat) (l : List (CV × TS)) (hC : ∀ (wx : World) (T : List Thing), St W wx (R ++ T) → ChIn wx a n cap l) (u : SV) (hu : v.put (l.map (·.1)) = u) {r : Value} (hr : v.ret (l.map (·.1)) = r) :
    Calls Tryz.prog 8 #[.pointer (some ⟨S, 0, none⟩), .slice a n cap] w fun e w' => e = .returned r ∧ St W w' (R.set i (SkT S u)) := by
  refine (st_sapply H i hi hv a n cap l hC).mono ?_
  rintro e w' ⟨rfl, H'⟩
  rw [hu] at H'
  exact ⟨by rw [← hr], H'⟩
theorem st_text (H : St W w R) (i : Nat) {S : Nat} {v : SV} (hi : R[i]? = some (SkT S v)) (hv : v.wf) {t : ByteArray} (ht : v.text = t) :
    Calls Tryz.prog 17 #[.pointer (some ⟨S, 0, none⟩)] w fun e w' => e = .returned (.string t) ∧ St W w' R := by
  subst ht
  exact st_sbytes H i hi hv
end
end Go.Proofs.YtmgnekjhlfghaaaGreat
