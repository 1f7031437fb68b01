/-
  Merged, in build order: Place17 Ops17 SJ SK Vw.
-/
import Derived.Test.YtmgnekjhlfghaaaM22
import Derived.Test.YtmgnekjhlfghaaaM23
import Derived.Test.YtmgnekjhlfghaaaM14
/-
  The laws' helper 'place' of layer 17.
-/
namespace Go.Proofs.Ytmgnekjhlfghaaa
open Go.RowKit
set_option linter.unusedVariables false

theorem place17 (n m : Int) (w : World) (h1 : -9223372036854775808 ≤ n) (h2 : n ≤ 9223372036854775807) (h3 : 1 ≤ m) (h4 : m ≤ 1000000) :
    Calls Try.prog 14 #[.int .i64 n, .int .i64 m] w fun e w' => e = .returned (.int .i64 (n % m)) ∧ w = w' := by
  have hm : (m == 0) = false := by simp; omega
  by_cases hn : 0 ≤ n
  · have e1 : 0 ≤ n % m := Int.emod_nonneg _ (by omega)
    have hp : ¬ n % m < 0 := by omega
    go_enter Try.func14, Try.ntmps14
    go_wp2
    go_ret
    exact ⟨rfl, rfl⟩
  · have ht := tmod_of_neg4 n m (by omega) h3
    have e3 : 0 ≤ n % m := Int.emod_nonneg _ (by omega)
    have e4 : n % m < m := Int.emod_lt_of_pos _ (by omega)
    by_cases hz : n % m = 0
    · rw [if_pos hz] at ht
      have b1 : 0 ≤ n.tmod m := by omega
      have b2 : n.tmod m ≤ 0 := by omega
      have b3 : ¬ n.tmod m < 0 := by omega
      have H := hid (ht.trans hz.symm)
      clear ht hz
      go_enter Try.func14, Try.ntmps14
      go_wp2
      go_ret
      exact ⟨by rw [← H.out]; rfl, rfl⟩
    · rw [if_neg hz] at ht
      have b1 : n.tmod m < 0 := by omega
      have b2 : -m < n.tmod m := by omega
      have H := hid (show n.tmod m + m = n % m by omega)
      clear ht hz
      go_enter Try.func14, Try.ntmps14
      go_wp2
      go_ret
      exact ⟨by rw [← H.out]; rfl, rfl⟩

end Go.Proofs.Ytmgnekjhlfghaaa

/-
  A script of layer 17's laws, as it came in.
-/
namespace Go.Proofs.Ytmgnekjhlfghaaa
open Go.RowKit Go.ChangeShapes Go.WideShapes Go.ChangeAt
set_option linter.unusedVariables false

structure Op17 where
  on : Int
  kind : Int
  n : Int
  ch : List (CV × TS)
  a : Option Addr
  c : Nat
def oL : Lay Op17 where
  f := fun x => [.int .i64 x.on, .int .i64 x.kind, .int .i64 x.n, .slice x.a x.ch.length x.c]
  d := ⟨0, 0, 0, [], none, 0⟩
  sz := 4
  len := fun _ => rfl
  pos := by decide
  one := fun a u hu => by simp at hu; rcases hu with rfl | rfl | rfl | rfl <;> rfl
/-- A call of a script that came in. -/
structure OneOp (w : World) (x : Op17) : Prop where
  ch : ChArg w x.a x.ch.length x.c x.ch
  nums : ∀ z, z = x.on ∨ z = x.kind ∨ z = x.n → -9223372036854775808 ≤ z ∧ z ≤ 9223372036854775807
/-- A script that came in. -/
structure OpsArg (w : World) (a : Option Addr) (n cap : Nat) (l : List Op17) : Prop where
  row : In w 4 a n cap (oL.at_ l)
  len : l.length = n
  le : n ≤ cap
  cap : cap * 48 ≤ 140737488351232
  one : ∀ x, x ∈ l → OneOp w x
theorem op_cells {w : World} {b o n cap : Nat} {l : List Op17} (h : In w 4 (some ⟨b, o, none⟩) n cap (oL.at_ l)) (k : Nat) (hk : k < n) (x : Op17) (hx : oL.nth l k = x) :
    w.cell? ⟨b, o + k * 4, none⟩ = some (.int .i64 x.on) ∧ w.cell? ⟨b, o + k * 4 + 1, none⟩ = some (.int .i64 x.kind) ∧ w.cell? ⟨b, o + k * 4 + 2, none⟩ = some (.int .i64 x.n) ∧ w.cell? ⟨b, o + k * 4 + 3, none⟩ = some (.slice x.a x.ch.length x.c) := by
  have hc : ∀ q, q < 4 → w.cell? ⟨b, o + k * 4 + q, none⟩ = some ((oL.f x).getD q undef) := fun q hq => by
    have h1 := h.cell b o rfl (k * 4 + q) (by omega)
    rw [show k * 4 + q = k * oL.sz + q from rfl, oL.at_add _ _ q hq, hx] at h1
    rw [Nat.add_assoc]; exact h1
  exact ⟨hc 0 (by decide), hc 1 (by decide), hc 2 (by decide), hc 3 (by decide)⟩

theorem flat_op17 : flat Try.prog 6 33 = some [.int .i64, .int .i64, .int .i64, .other 31] := by kernel_rfl
theorem op17_bytes : Try.prog.bytesOf 33 = 48 := by kernel_rfl
section
variable {H : Type} {enc : TypeId × Value → H} {w : World} {base : Nat} {spare : Nat → Bool} {held : Bool}
theorem oneOp_arg {c : Nat → Value} (hsp : ∀ b, spare b = true)
    (h : ∀ (q : Nat) (L : Leaf), ([.int .i64, .int .i64, .int .i64, .other 31] : List Leaf)[q]? = some L → L.ok enc Try.prog w reachBytes base spare held (c q)) :
    ∃ x : Op17, OneOp w x ∧ ∀ q, q < 4 → c q = (oL.f x).getD q undef := by
  obtain ⟨n0, e0, l0, u0⟩ := i64_ok (h 0 _ rfl)
  obtain ⟨n1, e1, l1, u1⟩ := i64_ok (h 1 _ rfl)
  obtain ⟨n2, e2, l2, u2⟩ := i64_ok (h 2 _ rfl)
  obtain ⟨a, n, cap, l, e3, hl⟩ := ch_arg hsp (h 3 _ rfl)
  have hn := hl.len
  subst hn
  refine ⟨⟨n0, n1, n2, l, a, cap⟩, ⟨hl, ?_⟩, ?_⟩
  · rintro z (rfl | rfl | rfl)
    · exact ⟨l0, u0⟩
    · exact ⟨l1, u1⟩
    · exact ⟨l2, u2⟩
  · intro q hq
    match q, hq with
    | 0, _ => exact e0
    | 1, _ => exact e1
    | 2, _ => exact e2
    | 3, _ => exact e3
theorem ops17_arg {v : Value} (hsp : ∀ b, spare b = true) (h : (Leaf.other 22).ok enc Try.prog w reachBytes base spare held v) :
    ∃ (a : Option Addr) (n cap : Nat) (l : List Op17), v = .slice a n cap ∧ OpsArg w a n cap l := by
  obtain ⟨a, len, cap, V, rfl, hS, hL⟩ := in_flat Try.underlying22 flat_op17 (by decide) hsp h
  rw [op17_bytes] at hS
  have hone : ∀ i, i < len → ∃ x : Op17, OneOp w x ∧ ∀ q, q < 4 → V (i * 4 + q) = (oL.f x).getD q undef := fun i hi => oneOp_arg (c := fun q => V (i * 4 + q)) hsp (fun q L hq => hL i hi q L hq)
  let g : Nat → Op17 := fun i => if h : i < len then Classical.choose (hone i h) else oL.d
  have hg : ∀ i, i < len → OneOp w (g i) ∧ ∀ q, q < 4 → V (i * 4 + q) = (oL.f (g i)).getD q undef := fun i hi => by
    have := Classical.choose_spec (hone i hi)
    simpa only [g, dif_pos hi] using this
  have hlen : ((List.range len).map g).length = len := by simp
  refine ⟨a, len, cap, (List.range len).map g, rfl, ?_, hlen, hS.le, hS.rch, fun x hx => ?_⟩
  · refine ⟨hS.le, hS.mx, hS.sm, fun b off e j hj => ?_⟩
    rw [hS.cell b off e j hj]
    have hk : j / 4 < len := by omega
    have hq : j % 4 < 4 := Nat.mod_lt _ (by decide)
    have e1 : V j = (oL.f (g (j / 4))).getD (j % 4) undef := by
      have := (hg (j / 4) hk).2 (j % 4) hq
      rwa [show j / 4 * 4 + j % 4 = j by omega] at this
    have e2 : oL.at_ ((List.range len).map g) j = (oL.f (g (j / 4))).getD (j % 4) undef := by
      have := oL.at_add ((List.range len).map g) (j / 4) (j % 4) hq
      rw [show j / 4 * oL.sz + j % 4 = j by show j / 4 * 4 + j % 4 = j; omega] at this
      rw [this]
      simp [Lay.nth, hk]
    rw [e1, e2]
  · obtain ⟨i, hi, rfl⟩ := List.mem_map.1 hx
    exact (hg i (by simpa using hi)).1
end
end Go.Proofs.Ytmgnekjhlfghaaa

/-
  state: what a change leaves of a job; what Find and Head tell: plain.
-/
namespace Go.Proofs.Ytmgnekjhlfghaaa
open Go.RowKit
set_option linter.unusedVariables false
set_option linter.unusedSimpArgs false

/-- A job that stood so may stand so now. -/
def Grown (a b : PV) : Prop := a.prog = b.prog ∧ a.r.job = b.r.job ∧ a.r.ba ≤ b.r.ba ∧ (if a.r.st = 3 ∨ a.r.st = 4 then a.r = b.r ∧ a.log = b.log else if a.r.ba ≠ b.r.ba then b.log = [] else a.log <+: b.log)
theorem Grown.refl (a : PV) : Grown a a := ⟨rfl, rfl, Int.le_refl _, by
  split
  · exact ⟨rfl, rfl⟩
  · rw [if_neg (fun h => h rfl)]; exact List.prefix_refl _⟩
theorem Grown.kept {a b : PV} (h1 : a.prog = b.prog) (h2 : a.r.job = b.r.job) (h3 : a.r.ba = b.r.ba) (h4 : ¬ (a.r.st = 3 ∨ a.r.st = 4)) (h5 : a.log <+: b.log) : Grown a b :=
  ⟨h1, h2, by omega, by rw [if_neg h4, if_neg (fun h => h h3)]; exact h5⟩
theorem getD_set {α : Type} {l : List α} {k j : Nat} {x d : α} (hk : k < l.length) : (l.set k x).getD j d = if j = k then x else l.getD j d := by
  by_cases h : j = k
  · subst h; rw [if_pos rfl, List.getD, List.getElem?_set_self hk]; rfl
  · rw [if_neg h, List.getD, List.getElem?_set_ne (Ne.symm h)]; rfl
/-- What a change does to the jobs that were there. -/
structure Grow (v u : SV) : Prop where
  res : v.res ≤ u.res
  n : v.q.rows.length ≤ u.q.rows.length
  job : ∀ k, k < v.q.rows.length → Grown (v.place k) (u.place k)
theorem Grow.refl (v : SV) : Grow v v := ⟨Int.le_refl _, Nat.le_refl _, fun k _ => Grown.refl _⟩
theorem place_eq {v u : SV} {k : Nat} (h1 : qL.nth v.q.rows k = qL.nth u.q.rows k) (h2 : sL.nth v.progs k = sL.nth u.progs k) (h3 : v.logs.getD k [] = u.logs.getD k []) : v.place k = u.place k := by
  unfold SV.place; rw [h1, h2, h3]
theorem held_row {q : QS} {b : Int} (h : ¬ fIdx (QR.pHeld b) q.rows < 0) : ∃ i : Nat, i < q.rows.length ∧ fIdx (QR.pHeld b) q.rows = i ∧ (qL.nth q.rows i).st = 2 := by
  rcases fIdx_cases (QR.pHeld b) q.rows with ⟨k, h1, h2, _, h3⟩ | ⟨_, h3⟩
  · refine ⟨k, h1, h3, ?_⟩
    simp only [QR.pHeld, Bool.and_eq_true, beq_iff_eq] at h2
    exact h2.1
  · rw [h3] at h; exact absurd (by decide) h
theorem grow_set {v : SV} {i : Nat} {x : QR} (hi : i < v.q.rows.length) (h1 : (qL.nth v.q.rows i).job = x.job) (h2 : (qL.nth v.q.rows i).ba = x.ba) (h3 : (qL.nth v.q.rows i).st = 2) : Grow v { v with q := { v.q with rows := v.q.rows.set i x } } := by
  refine ⟨Int.le_refl _, by simp, fun k hk => ?_⟩
  by_cases hki : k = i
  · subst hki
    have e : qL.nth (v.q.rows.set k x) k = x := by rw [qL.nth_set _ _ _ _ hk, if_pos rfl]
    refine Grown.kept rfl ?_ ?_ ?_ (List.prefix_refl _)
    · show (qL.nth v.q.rows k).job = (qL.nth (v.q.rows.set k x) k).job; rw [e]; exact h1
    · show (qL.nth v.q.rows k).ba = (qL.nth (v.q.rows.set k x) k).ba; rw [e]; exact h2
    · show ¬ ((qL.nth v.q.rows k).st = 3 ∨ (qL.nth v.q.rows k).st = 4); omega
  · rw [place_eq (v := v) (u := { v with q := { v.q with rows := v.q.rows.set i x } }) (k := k) (by show _ = qL.nth (v.q.rows.set i x) k; rw [qL.nth_set _ _ _ _ hi, if_neg hki]) rfl rfl]
    exact Grown.refl _
theorem grow_does {v u : SV} (hv : v.wf) {c : CV} (h : v.does c = some u) : Grow v u := by
  unfold SV.does at h
  split at h
  · unfold SV.reserve at h
    split at h
    · cases h
    · cases h; exact ⟨by show v.res ≤ c.n; omega, Nat.le_refl _, fun k _ => Grown.refl _⟩
  split at h
  · unfold SV.submit at h
    split at h
    · cases h
    · split at h
      · cases h
      · next he =>
        cases h
        have hr : v.q.submit.2.2 = { v.q with rows := v.q.rows ++ [QR.mk (v.q.rows.length + 1) 1 0 0 0 0 0 0] } := by
          unfold QS.submit at he ⊢
          split
          · next h8 => rw [if_pos h8] at he; exact (he (by simp)).elim
          · rfl
        refine ⟨Int.le_refl _, by rw [hr]; simp, fun k hk => ?_⟩
        rw [place_eq (v := v) (k := k) (u := { v with q := v.q.submit.2.2, progs := v.progs ++ [c.prog], logs := v.logs ++ [[]] }) ?_ ?_ ?_]
        · exact Grown.refl _
        · rw [hr]; show _ = qL.nth (v.q.rows ++ [_]) k; rw [qL.nth_snoc, if_neg (by omega)]
        · show _ = sL.nth (v.progs ++ [_]) k; rw [sL.nth_snoc, if_neg (by rw [hv.np]; omega)]
        · show _ = (v.logs ++ [[]]).getD k []; rw [List.getD, List.getD, List.getElem?_append_left (by rw [hv.nl]; exact hk)]
  split at h
  · unfold SV.grant at h
    split at h
    · cases h
    · split at h
      · cases h
      · next hb he =>
        cases h
        obtain ⟨hj, hst, hlt, hr⟩ : (1 ≤ c.job ∧ c.job ≤ v.q.rows.length) ∧ (qL.nth v.q.rows (c.job - 1).toNat).st = 1 ∧ fIdx (QR.pGrant c.badge) v.q.rows < 0 ∧ (v.q.grant c.job c.badge (2 + c.slot) c.life).2 = { v.q with rows := v.q.rows.set (c.job - 1).toNat { qL.nth v.q.rows (c.job - 1).toNat with st := 2, ba := c.badge, node := 2 + c.slot, life := c.life, at_ := (qL.nth v.q.rows (c.job - 1).toNat).at_ + 1 } } := by
          unfold QS.grant at he ⊢
          split
          · next h1 => rw [if_pos h1] at he; exact (he (by simp)).elim
          · next h1 =>
            rw [if_neg h1] at he
            split
            · next h2 => rw [if_pos h2] at he; exact (he (by simp)).elim
            · next h2 =>
              rw [if_neg h2] at he
              split
              · next h3 => rw [if_pos h3] at he; exact (he (by simp)).elim
              · next h3 =>
                rw [if_neg h3] at he
                split
                · next h4 => rw [if_pos h4] at he; exact (he (by simp)).elim
                · refine ⟨by omega, Classical.not_not.1 h2, ?_, rfl⟩
                  rcases Int.lt_or_le (fIdx (QR.pGrant c.badge) v.q.rows) 0 with h5 | h5
                  · exact h5
                  · exact absurd (.inr h5) h3
        obtain ⟨i, hi⟩ : ∃ i : Nat, (c.job - 1).toNat = i := ⟨_, rfl⟩
        rw [hi] at hst hr
        have hil : i < v.q.rows.length := by omega
        have hba : (qL.nth v.q.rows i).ba < c.badge := by
          rcases fIdx_cases (QR.pGrant c.badge) v.q.rows with ⟨k, _, _, _, h3⟩ | ⟨h3, _⟩
          · omega
          · have := h3 i hil
            simp only [QR.pGrant, decide_eq_false_iff_not] at this
            omega
        refine ⟨Int.le_refl _, by rw [hr]; simp, fun k hk => ?_⟩
        have hll : i < v.logs.length := by rw [hv.nl]; exact hil
        by_cases hki : k = i
        · subst hki
          have e1 : ({ v with q := (v.q.grant c.job c.badge (2 + c.slot) c.life).2, logs := v.logs.set (c.job - 1).toNat [] } : SV).place k = ⟨{ qL.nth v.q.rows k with st := 2, ba := c.badge, node := 2 + c.slot, life := c.life, at_ := (qL.nth v.q.rows k).at_ + 1 }, sL.nth v.progs k, []⟩ := by
            unfold SV.place
            rw [hr, hi]
            dsimp only
            rw [qL.nth_set _ _ _ _ hk, if_pos rfl, getD_set hll, if_pos rfl]
          rw [e1]
          refine ⟨rfl, rfl, by show (qL.nth v.q.rows k).ba ≤ c.badge; omega, ?_⟩
          rw [if_neg (by show ¬ ((qL.nth v.q.rows k).st = 3 ∨ (qL.nth v.q.rows k).st = 4); omega), if_pos (by show (qL.nth v.q.rows k).ba ≠ c.badge; omega)]
        · rw [place_eq (v := v) (k := k) (u := { v with q := (v.q.grant c.job c.badge (2 + c.slot) c.life).2, logs := v.logs.set (c.job - 1).toNat [] }) ?_ rfl ?_]
          · exact Grown.refl _
          · rw [hr]; dsimp only; rw [qL.nth_set _ _ _ _ hil, if_neg hki]
          · dsimp only; rw [hi, getD_set hll, if_neg hki]
  split at h
  · unfold SV.log at h
    split at h
    · cases h
    · split at h
      · cases h
      · split at h
        · cases h
        · next h1 h2 h3 =>
          cases h
          have hz : (v.q.find c.badge).2 = true := by simpa using h1
          obtain ⟨i, hi, hx, hjob⟩ := find_at (q := v.q) hv.q (b := c.badge) (x := (v.q.find c.badge).1) (by rw [← hz])
          have hil : ((v.q.find c.badge).1.job - 1).toNat = i := by omega
          have hll : i < v.logs.length := by rw [hv.nl]; exact hi
          have hst : (qL.nth v.q.rows i).st = 2 := by rw [← hx]; exact Classical.not_not.1 h2
          refine ⟨Int.le_refl _, Nat.le_refl _, fun k hk => ?_⟩
          by_cases hki : k = i
          · subst hki
            refine Grown.kept rfl rfl rfl (by show ¬ ((qL.nth v.q.rows k).st = 3 ∨ (qL.nth v.q.rows k).st = 4); omega) ?_
            show v.logs.getD k [] <+: (v.logs.set ((v.q.find c.badge).1.job - 1).toNat _).getD k []
            rw [hil, getD_set hll, if_pos rfl]
            exact List.prefix_append _ _
          · rw [place_eq (v := v) (k := k) (u := { v with logs := v.logs.set ((v.q.find c.badge).1.job - 1).toNat (v.logs.getD ((v.q.find c.badge).1.job - 1).toNat [] ++ c.texts) }) rfl rfl (by dsimp only; rw [hil, getD_set hll, if_neg hki])]
            exact Grown.refl _
  split at h
  · unfold SV.expire at h
    split at h
    · cases h
    · next he =>
      cases h
      unfold QS.expire at he ⊢
      split
      · next h1 => rw [if_pos h1] at he; exact (he (by simp)).elim
      · next h1 =>
        obtain ⟨i, hi, e, hst⟩ := held_row h1
        rw [e]
        exact grow_set hi rfl rfl hst
  · unfold SV.settle at h
    split at h
    · cases h
    · next he =>
      cases h
      unfold QS.settle at he ⊢
      split
      · next h1 => rw [if_pos h1] at he; exact (he (by simp)).elim
      · next h1 =>
        rw [if_neg h1] at he
        split
        · next h2 => rw [if_pos h2] at he; exact (he (by simp)).elim
        · obtain ⟨i, hi, e, hst⟩ := held_row h1
          rw [e]
          exact grow_set hi rfl rfl hst
theorem grow_put {v : SV} (hv : v.wf) (c : CV) : Grow v (v.put [c]) := by
  unfold SV.put
  rw [SV.go]
  split
  · next u h =>
    split at h
    · cases h
    · next v1 h1 =>
      cases h
      unfold SV.one at h1
      split at h1
      · exact grow_does hv h1
      · cases h1
  · exact Grow.refl _

/-! ### Find, Head -/
theorem ba_ne' {q : QS} (hw : q.wf) {i j : Nat} (hi : i < q.rows.length) (hj : j < q.rows.length) (hij : i ≠ j) (h0 : 0 < (qL.nth q.rows j).ba) : (qL.nth q.rows i).ba ≠ (qL.nth q.rows j).ba := by
  rcases Nat.lt_or_gt_of_ne hij with h | h
  · exact hw.ba i j h hj h0
  · intro e
    exact hw.ba j i h hi (by omega) e.symm
theorem find_ba {q : QS} (hw : q.wf) {k : Nat} (hk : k < q.rows.length) (h0 : 0 < (qL.nth q.rows k).ba) : q.find (qL.nth q.rows k).ba = (qL.nth q.rows k, true) := by
  unfold QS.find
  rw [fIdx_some (p := QR.pFind (qL.nth q.rows k).ba) hk (by simp [QR.pFind, h0]) (fun j hj => by simp only [QR.pFind, Bool.and_eq_false_iff, beq_eq_false_iff_ne]; exact .inl (ba_ne' hw (by omega) hk (by omega) h0))]
  unfold QS.row
  rw [if_neg (by omega), show ((k : Int) + 1 - 1).toNat = k by omega]
theorem find_none {q : QS} {b : Int} (h0 : ∀ k, k < q.rows.length → ¬ ((qL.nth q.rows k).ba = b ∧ 0 < b)) : q.find b = (.zero, false) := by
  unfold QS.find
  rw [fIdx_none (p := QR.pFind b) (fun k hk => by
    have := h0 k hk
    simp only [QR.pFind, Bool.and_eq_false_iff, beq_eq_false_iff_ne, decide_eq_false_iff_not]
    by_cases h : (qL.nth q.rows k).ba = b
    · exact .inr (fun h2 => this ⟨h, h2⟩)
    · exact .inl h)]
  unfold QS.row
  rw [if_pos (by omega)]
theorem sfind_ba {v : SV} (hv : v.wf) {k : Nat} (hk : k < v.q.rows.length) : v.sfind (qL.nth v.q.rows k).ba = if 0 < (qL.nth v.q.rows k).ba then (v.place k, true) else (.zero, false) := by
  unfold SV.sfind
  by_cases h0 : 0 < (qL.nth v.q.rows k).ba
  · rw [find_ba hv.q hk h0, if_pos rfl, if_pos h0]
    have := (may_facts (hv.q.ok k hk)).1
    rw [show ((qL.nth v.q.rows k).job - 1).toNat = k by omega]
  · rw [find_none (fun k _ => by omega), if_neg h0]; rfl
theorem sfind_no {v : SV} {b : Int} (h0 : ∀ k, k < v.q.rows.length → ¬ ((qL.nth v.q.rows k).ba = b ∧ 0 < b)) : v.sfind b = (.zero, false) := by
  unfold SV.sfind; rw [find_none h0]; rfl
/-- The head, found among the first rows. -/
def hdk (l : List QR) : Nat → Nat
  | 0 => 0
  | k + 1 => if (qL.nth l k).st = 1 ∧ hdk l k = 0 then k + 1 else hdk l k
theorem hdk_inv (l : List QR) : ∀ (k : Nat), hdk l k ≤ k ∧ (hdk l k = 0 → ∀ j, j < k → (qL.nth l j).st ≠ 1) ∧ ∀ i, hdk l k = i + 1 → i < k ∧ (qL.nth l i).st = 1 ∧ ∀ j, j < i → (qL.nth l j).st ≠ 1
  | 0 => ⟨Nat.le_refl _, fun _ j hj => absurd hj (Nat.not_lt_zero _), fun i h => by simp [hdk] at h⟩
  | k + 1 => by
    obtain ⟨h1, h2, h3⟩ := hdk_inv l k
    unfold hdk
    split
    · rename_i hs
      refine ⟨Nat.le_refl _, (fun h => by omega), fun i hi => ?_⟩
      obtain rfl : i = k := by omega
      exact ⟨by omega, hs.1, h2 hs.2⟩
    · rename_i hs
      refine ⟨by omega, fun h j hj => ?_, fun i hi => ?_⟩
      · by_cases hjk : j = k
        · subst hjk; exact fun h5 => hs ⟨h5, h⟩
        · exact h2 h j (by omega)
      · obtain ⟨a, b, c⟩ := h3 i hi; exact ⟨by omega, b, c⟩
theorem hdk_head (q : QS) : q.head = hdk q.rows q.rows.length := by
  obtain ⟨h1, h2, h3⟩ := hdk_inv q.rows q.rows.length
  unfold QS.head
  rcases Nat.eq_zero_or_pos (hdk q.rows q.rows.length) with h | h
  · rw [h, fIdx_none (p := QR.pHead) (fun k hk => by simp only [QR.pHead, beq_eq_false_iff_ne]; exact h2 h k hk)]; rfl
  · obtain ⟨i, hi⟩ : ∃ i, hdk q.rows q.rows.length = i + 1 := ⟨hdk q.rows q.rows.length - 1, by omega⟩
    obtain ⟨a, b, c⟩ := h3 i hi
    rw [hi, fIdx_some (p := QR.pHead) (k := i) a (by simp [QR.pHead, b]) (fun j hj => by simp only [QR.pHead, beq_eq_false_iff_ne]; exact c j hj)]
    push_cast; rfl
end Go.Proofs.Ytmgnekjhlfghaaa

/-
  gafferlaw17: settled, grown.
-/
namespace Go.Proofs.Ytmgnekjhlfghaaa
open Go.RowKit
set_option linter.unusedVariables false
set_option linter.unusedSimpArgs false

theorem settled17 (w : World) (x : QR) : Calls Try.prog 37 #[.agg #[.int .i64 x.job, .int .i64 x.st, .int .i64 x.at_, .int .i64 x.ba, .int .i64 x.node, .int .i64 x.life, .int .i64 x.code, .int .u64 x.bits]] w fun e w' => e = .returned (.bool (decide (x.st = 3 ∨ x.st = 4))) ∧ Fr [] w w' := by
  by_cases h1 : x.st = 3
  · have e1 : (x.st == 3) = true := by rw [beq_iff_eq]; exact h1
    have e2 : decide (x.st = 3 ∨ x.st = 4) = true := decide_eq_true (.inl h1)
    rw [e2]
    clear h1
    go_enter Try.func37, Try.ntmps37
    go_wp2_with fail
    go_ret
    exact ⟨rfl, (Fr.refl _ _).alloc _⟩
  · have e1 : (x.st == 3) = false := by rw [beq_eq_false_iff_ne]; exact h1
    by_cases h2 : x.st = 4
    · have e3 : (x.st == 4) = true := by rw [beq_iff_eq]; exact h2
      have e2 : decide (x.st = 3 ∨ x.st = 4) = true := decide_eq_true (.inr h2)
      rw [e2]
      clear h1 h2
      go_enter Try.func37, Try.ntmps37
      go_wp2_with fail
      go_ret
      exact ⟨rfl, (Fr.refl _ _).alloc _⟩
    · have e3 : (x.st == 4) = false := by rw [beq_eq_false_iff_ne]; exact h2
      have e2 : decide (x.st = 3 ∨ x.st = 4) = false := decide_eq_false (by omega)
      rw [e2]
      clear h1 h2
      go_enter Try.func37, Try.ntmps37
      go_wp2_with fail
      go_ret
      exact ⟨rfl, (Fr.refl _ _).alloc _⟩
theorem In.cut {w : World} {a : Option Addr} {cap : Nat} {l : List ByteArray} (h : In w 1 a l.length cap (sL.at_ l)) (m : Nat) (hm : m ≤ l.length) : In w 1 a (l.take m).length cap (sL.at_ (l.take m)) := by
  have hl : (l.take m).length = m := by simp; omega
  rw [hl]
  refine ⟨by have := h.le; omega, h.mx, fun h0 => h.sm (by omega), fun b off e j hj => ?_⟩
  rw [h.cell b off e j (by omega)]
  congr 1
  have e1 := sL.at_add l j 0 (by decide)
  have e2 := sL.at_add (l.take m) j 0 (by decide)
  rw [show j * sL.sz + 0 = j by show j * 1 + 0 = j; omega] at e1 e2
  rw [e1, e2]
  congr 2
  unfold Lay.nth
  simp only [List.getD, List.getElem?_take, if_pos (show j < m by omega)]
set_option maxHeartbeats 4000000 in
set_option maxRecDepth 100000 in
theorem grown_walk (w : World) (x y : PV × TS) (hx : PvIn w x) (hy : PvIn w y) (hG : Grown x.1 y.1) :
    Calls Try.prog 17 #[.agg (pF x).toArray, .agg (pF y).toArray] w fun e w' => e = .returned (.bool true) ∧ Fr [] w w' := by
  obtain ⟨⟨x, xp, xl⟩, ⟨xa, xc⟩⟩ := x
  obtain ⟨⟨y, yp, yl⟩, ⟨ya, yc⟩⟩ := y
  have hF : Fr [] w ((w.alloc (pO (⟨x, xp, xl⟩, ⟨xa, xc⟩))).alloc (pO (⟨y, yp, yl⟩, ⟨ya, yc⟩))) := ((Fr.refl _ _).alloc _).alloc _
  have hb1 := blk_alloc_lt (pO (⟨y, yp, yl⟩, ⟨ya, yc⟩)) (blk_alloc_at w (pO (⟨x, xp, xl⟩, ⟨xa, xc⟩)) _ rfl)
  have hb2 := blk_alloc_at (w.alloc (pO (⟨x, xp, xl⟩, ⟨xa, xc⟩))) (pO (⟨y, yp, yl⟩, ⟨ya, yc⟩)) (w.heap.size + 1) (by simp)
  obtain ⟨g1, g2, g3, g4⟩ := hG
  dsimp only at g1 g2 g3 g4
  subst g1
  have HX := hid (In.fr0 hx hF)
  have HY := hid (In.fr0 hy hF)
  dsimp only at HX HY
  have HF := hid (And.intro hF (And.intro hb1 hb2))
  have hlt := hid (show ∀ wx, Fr [] ((w.alloc (pO (⟨x, xp, xl⟩, ⟨xa, xc⟩))).alloc (pO (⟨y, xp, yl⟩, ⟨ya, yc⟩))) wx → wx.heap[w.heap.size]? = some (pO (⟨x, xp, xl⟩, ⟨xa, xc⟩)) ∧ wx.heap[w.heap.size + 1]? = some (pO (⟨y, xp, yl⟩, ⟨ya, yc⟩)) from fun wx h => ⟨h.keep hb1 (by simp), h.keep hb2 (by simp)⟩)
  have hm1 := hx.max
  have hm2 := hy.max
  have hyl := hy.le
  dsimp only at hm1 hm2 hyl
  have e1 : (x.job == y.job) = true := by rw [beq_iff_eq]; exact g2
  have e2 : (x.job != y.job) = false := by rw [bne_eq_false_iff_eq]; exact g2
  have e3 : decide (y.ba < x.ba) = false := decide_eq_false (by omega)
  have G := hid g4
  clear g4 g2 g3 hx hy hF hb1 hb2
  by_cases hs : x.st = 3 ∨ x.st = 4
  · have g := G.out
    rw [if_pos hs] at g
    obtain ⟨rfl, rfl⟩ := g
    have hxy : ((⟨x.job, x.st, x.at_, x.ba, x.node, x.life, x.code, x.bits⟩ : QR) == ⟨x.job, x.st, x.at_, x.ba, x.node, x.life, x.code, x.bits⟩) = true := (qr_eq _ _).2 rfl
    have hxx : (x == x) = true := (qr_eq _ _).2 rfl
    have hd : decide (x.st = 3 ∨ x.st = 4) = true := decide_eq_true hs
    have HS := hid (fun w => by have := settled17 w x; rwa [hd] at this)
    clear hs hd G
    go_enter Try.func17, Try.ntmps17
    dsimp only [pF]
    go_wp2_with fail
    refine (HS.out _).mono ?_
    rintro e w1 ⟨rfl, hF1⟩
    have k0 : w1.cell? ⟨w.heap.size, 0, none⟩ = some (.int .i64 x.job) := cell_blk (hlt.out _ hF1).1 rfl
    have k1 : w1.cell? ⟨w.heap.size, 1, none⟩ = some (.int .i64 x.st) := cell_blk (hlt.out _ hF1).1 rfl
    have k2 : w1.cell? ⟨w.heap.size, 2, none⟩ = some (.int .i64 x.at_) := cell_blk (hlt.out _ hF1).1 rfl
    have k3 : w1.cell? ⟨w.heap.size, 3, none⟩ = some (.int .i64 x.ba) := cell_blk (hlt.out _ hF1).1 rfl
    have k4 : w1.cell? ⟨w.heap.size, 4, none⟩ = some (.int .i64 x.node) := cell_blk (hlt.out _ hF1).1 rfl
    have k5 : w1.cell? ⟨w.heap.size, 5, none⟩ = some (.int .i64 x.life) := cell_blk (hlt.out _ hF1).1 rfl
    have k6 : w1.cell? ⟨w.heap.size, 6, none⟩ = some (.int .i64 x.code) := cell_blk (hlt.out _ hF1).1 rfl
    have k7 : w1.cell? ⟨w.heap.size, 7, none⟩ = some (.int .u64 x.bits) := cell_blk (hlt.out _ hF1).1 rfl
    have k9 : w1.cell? ⟨w.heap.size, 9, none⟩ = some (.slice xa xl.length xc) := cell_blk (hlt.out _ hF1).1 rfl
    have m0 : w1.cell? ⟨w.heap.size + 1, 0, none⟩ = some (.int .i64 x.job) := cell_blk (hlt.out _ hF1).2 rfl
    have m1 : w1.cell? ⟨w.heap.size + 1, 1, none⟩ = some (.int .i64 x.st) := cell_blk (hlt.out _ hF1).2 rfl
    have m2 : w1.cell? ⟨w.heap.size + 1, 2, none⟩ = some (.int .i64 x.at_) := cell_blk (hlt.out _ hF1).2 rfl
    have m3 : w1.cell? ⟨w.heap.size + 1, 3, none⟩ = some (.int .i64 x.ba) := cell_blk (hlt.out _ hF1).2 rfl
    have m4 : w1.cell? ⟨w.heap.size + 1, 4, none⟩ = some (.int .i64 x.node) := cell_blk (hlt.out _ hF1).2 rfl
    have m5 : w1.cell? ⟨w.heap.size + 1, 5, none⟩ = some (.int .i64 x.life) := cell_blk (hlt.out _ hF1).2 rfl
    have m6 : w1.cell? ⟨w.heap.size + 1, 6, none⟩ = some (.int .i64 x.code) := cell_blk (hlt.out _ hF1).2 rfl
    have m7 : w1.cell? ⟨w.heap.size + 1, 7, none⟩ = some (.int .u64 x.bits) := cell_blk (hlt.out _ hF1).2 rfl
    have m9 : w1.cell? ⟨w.heap.size + 1, 9, none⟩ = some (.slice ya (xl).length yc) := cell_blk (hlt.out _ hF1).2 rfl
    have HT := hid (sameTexts w1 xa ya xc yc xl xl (HX.out.fr0 hF1) (HY.out.fr0 hF1))
    have HF1 := hid hF1
    clear hF1
    go_wp2_with fail
    refine HT.out.mono ?_
    rintro e w2 ⟨⟨z, rfl, hz⟩, hF2⟩
    obtain rfl : z = true := hz.2 (by trivial)
    clear hz
    have HF2 := hid hF2
    clear hF2
    go_wp2_with fail
    go_ret
    exact ⟨rfl, HF.out.1.trans (HF1.out.trans HF2.out)⟩
  have hd : decide (x.st = 3 ∨ x.st = 4) = false := decide_eq_false hs
  have HS := hid (fun w => by have := settled17 w x; rwa [hd] at this)
  have g := G.out
  rw [if_neg hs] at g
  clear hd G hs
  by_cases hb : x.ba = y.ba
  · rw [if_neg (fun h => h hb)] at g
    have e4 : (x.ba == y.ba) = true := by rw [beq_iff_eq]; exact hb
    have e5 : (x.ba != y.ba) = false := by rw [bne_eq_false_iff_eq]; exact hb
    have hle := g.length_le
    have e6 : decide ((xl.length : Int) ≤ yl.length) = true := decide_eq_true (by omega)
    have hmin : min (xl.length : Int) yl.length = xl.length := by omega
    have htk : yl.take xl.length = xl := (List.prefix_iff_eq_take.1 g).symm
    have htk := hid htk
    have hle0 : (0 : Int) ≤ xl.length := by omega
    have hle1 : (xl.length : Int) ≤ yc := by omega
    clear g hb
    go_enter Try.func17, Try.ntmps17
    dsimp only [pF]
    go_wp2_with fail
    refine (HS.out _).mono ?_
    rintro e w1 ⟨rfl, hF1⟩
    have k0 : w1.cell? ⟨w.heap.size, 0, none⟩ = some (.int .i64 x.job) := cell_blk (hlt.out _ hF1).1 rfl
    have k1 : w1.cell? ⟨w.heap.size, 1, none⟩ = some (.int .i64 x.st) := cell_blk (hlt.out _ hF1).1 rfl
    have k2 : w1.cell? ⟨w.heap.size, 2, none⟩ = some (.int .i64 x.at_) := cell_blk (hlt.out _ hF1).1 rfl
    have k3 : w1.cell? ⟨w.heap.size, 3, none⟩ = some (.int .i64 x.ba) := cell_blk (hlt.out _ hF1).1 rfl
    have k4 : w1.cell? ⟨w.heap.size, 4, none⟩ = some (.int .i64 x.node) := cell_blk (hlt.out _ hF1).1 rfl
    have k5 : w1.cell? ⟨w.heap.size, 5, none⟩ = some (.int .i64 x.life) := cell_blk (hlt.out _ hF1).1 rfl
    have k6 : w1.cell? ⟨w.heap.size, 6, none⟩ = some (.int .i64 x.code) := cell_blk (hlt.out _ hF1).1 rfl
    have k7 : w1.cell? ⟨w.heap.size, 7, none⟩ = some (.int .u64 x.bits) := cell_blk (hlt.out _ hF1).1 rfl
    have k9 : w1.cell? ⟨w.heap.size, 9, none⟩ = some (.slice xa xl.length xc) := cell_blk (hlt.out _ hF1).1 rfl
    have m0 : w1.cell? ⟨w.heap.size + 1, 0, none⟩ = some (.int .i64 y.job) := cell_blk (hlt.out _ hF1).2 rfl
    have m1 : w1.cell? ⟨w.heap.size + 1, 1, none⟩ = some (.int .i64 y.st) := cell_blk (hlt.out _ hF1).2 rfl
    have m2 : w1.cell? ⟨w.heap.size + 1, 2, none⟩ = some (.int .i64 y.at_) := cell_blk (hlt.out _ hF1).2 rfl
    have m3 : w1.cell? ⟨w.heap.size + 1, 3, none⟩ = some (.int .i64 y.ba) := cell_blk (hlt.out _ hF1).2 rfl
    have m4 : w1.cell? ⟨w.heap.size + 1, 4, none⟩ = some (.int .i64 y.node) := cell_blk (hlt.out _ hF1).2 rfl
    have m5 : w1.cell? ⟨w.heap.size + 1, 5, none⟩ = some (.int .i64 y.life) := cell_blk (hlt.out _ hF1).2 rfl
    have m6 : w1.cell? ⟨w.heap.size + 1, 6, none⟩ = some (.int .i64 y.code) := cell_blk (hlt.out _ hF1).2 rfl
    have m7 : w1.cell? ⟨w.heap.size + 1, 7, none⟩ = some (.int .u64 y.bits) := cell_blk (hlt.out _ hF1).2 rfl
    have m9 : w1.cell? ⟨w.heap.size + 1, 9, none⟩ = some (.slice ya (yl).length yc) := cell_blk (hlt.out _ hF1).2 rfl
    have HF1 := hid hF1
    have HK := hid (show ∀ wx, Fr [] w1 wx → wx.cell? ⟨w.heap.size, 9, none⟩ = some (.slice xa xl.length xc) ∧ wx.cell? ⟨w.heap.size + 1, 9, none⟩ = some (.slice ya yl.length yc) from fun wx h => ⟨h.cell0 k9, h.cell0 m9⟩)
    have HT := hid (show ∀ wx, Fr [] w1 wx → Calls Try.prog 38 #[.slice xa xl.length xc, .slice ya xl.length yc] wx fun e w' => e = .returned (.bool true) ∧ Fr [] wx w' from fun wx h => by
      have hin := (HY.out.fr0 (hF1.trans h)).cut xl.length hle
      rw [htk.out] at hin
      refine (sameTexts wx xa ya xc yc xl xl (HX.out.fr0 (hF1.trans h)) hin).mono ?_
      rintro e w2 ⟨⟨z, rfl, hz⟩, hF2⟩
      obtain rfl : z = true := hz.2 rfl
      exact ⟨rfl, hF2⟩)
    clear hF1 k0 k1 k2 k4 k5 k6 k7 m0 m1 m2 m4 m5 m6 m7
    go_wp2_with fail
    refine wp_region_calm (S := fun wx : World => Fr [] w1 wx) (by kernel_rfl) (lexB_of' (by kernel_rfl) (by kernel_rfl)) ((Fr.refl _ _).drew) ?_
    repeat (first | (refine calmRow_free (v := ?_) rfl ?_ ?_; rotate_left; (focus (intro wx hSx; (try dsimp only at hSx); have hcx := HK.out wx hSx; go_simp; (first | with_reducible rfl | exact ⟨rfl, hSx⟩ | (refine (HT.out _ hSx).mono ?_; rintro e w1 ⟨rfl, hF1⟩; refine ⟨?_, hSx.trans hF1⟩; with_reducible rfl)))); (try simp only [Act.put, List.setIfInBounds_toArray, List.set_cons_zero, List.set_cons_succ])) | (refine calmRow_skip ?_ ?_; (focus (go_simp; (try (intro hx; cases hx)); done)); (try simp only [Act.put, List.setIfInBounds_toArray, List.set_cons_zero, List.set_cons_succ])) | (refine calmRow_take (v := ?_) ?_ ?_ ?_; rotate_left; (focus (go_simp; done)); (focus (intro wx hSx; (try dsimp only at hSx); have hcx := HK.out wx hSx; go_simp; (first | with_reducible rfl | exact ⟨rfl, hSx⟩ | (refine (HT.out _ hSx).mono ?_; rintro e w1 ⟨rfl, hF1⟩; refine ⟨?_, hSx.trans hF1⟩; with_reducible rfl)))); (try simp only [Act.put, List.setIfInBounds_toArray, List.set_cons_zero, List.set_cons_succ])))
    refine calmRow_nil ?_
    intro wn hFx
    try dsimp only at hFx
    go_wp2_with fail
    go_ret
    exact ⟨rfl, HF.out.1.trans (HF1.out.trans hFx)⟩
  · rw [if_pos hb] at g
    subst g
    have e4 : (x.ba == y.ba) = false := by rw [beq_eq_false_iff_ne]; exact hb
    have e5 : (x.ba != y.ba) = true := by rw [bne_iff_ne]; exact hb
    clear hb
    go_enter Try.func17, Try.ntmps17
    dsimp only [pF]
    go_wp2_with fail
    refine (HS.out _).mono ?_
    rintro e w1 ⟨rfl, hF1⟩
    have k0 : w1.cell? ⟨w.heap.size, 0, none⟩ = some (.int .i64 x.job) := cell_blk (hlt.out _ hF1).1 rfl
    have k1 : w1.cell? ⟨w.heap.size, 1, none⟩ = some (.int .i64 x.st) := cell_blk (hlt.out _ hF1).1 rfl
    have k2 : w1.cell? ⟨w.heap.size, 2, none⟩ = some (.int .i64 x.at_) := cell_blk (hlt.out _ hF1).1 rfl
    have k3 : w1.cell? ⟨w.heap.size, 3, none⟩ = some (.int .i64 x.ba) := cell_blk (hlt.out _ hF1).1 rfl
    have k4 : w1.cell? ⟨w.heap.size, 4, none⟩ = some (.int .i64 x.node) := cell_blk (hlt.out _ hF1).1 rfl
    have k5 : w1.cell? ⟨w.heap.size, 5, none⟩ = some (.int .i64 x.life) := cell_blk (hlt.out _ hF1).1 rfl
    have k6 : w1.cell? ⟨w.heap.size, 6, none⟩ = some (.int .i64 x.code) := cell_blk (hlt.out _ hF1).1 rfl
    have k7 : w1.cell? ⟨w.heap.size, 7, none⟩ = some (.int .u64 x.bits) := cell_blk (hlt.out _ hF1).1 rfl
    have k9 : w1.cell? ⟨w.heap.size, 9, none⟩ = some (.slice xa xl.length xc) := cell_blk (hlt.out _ hF1).1 rfl
    have m0 : w1.cell? ⟨w.heap.size + 1, 0, none⟩ = some (.int .i64 y.job) := cell_blk (hlt.out _ hF1).2 rfl
    have m1 : w1.cell? ⟨w.heap.size + 1, 1, none⟩ = some (.int .i64 y.st) := cell_blk (hlt.out _ hF1).2 rfl
    have m2 : w1.cell? ⟨w.heap.size + 1, 2, none⟩ = some (.int .i64 y.at_) := cell_blk (hlt.out _ hF1).2 rfl
    have m3 : w1.cell? ⟨w.heap.size + 1, 3, none⟩ = some (.int .i64 y.ba) := cell_blk (hlt.out _ hF1).2 rfl
    have m4 : w1.cell? ⟨w.heap.size + 1, 4, none⟩ = some (.int .i64 y.node) := cell_blk (hlt.out _ hF1).2 rfl
    have m5 : w1.cell? ⟨w.heap.size + 1, 5, none⟩ = some (.int .i64 y.life) := cell_blk (hlt.out _ hF1).2 rfl
    have m6 : w1.cell? ⟨w.heap.size + 1, 6, none⟩ = some (.int .i64 y.code) := cell_blk (hlt.out _ hF1).2 rfl
    have m7 : w1.cell? ⟨w.heap.size + 1, 7, none⟩ = some (.int .u64 y.bits) := cell_blk (hlt.out _ hF1).2 rfl
    have m9 : w1.cell? ⟨w.heap.size + 1, 9, none⟩ = some (.slice ya (([] : List ByteArray)).length yc) := cell_blk (hlt.out _ hF1).2 rfl
    have HF1 := hid hF1
    clear hF1
    go_wp2_with fail
    go_ret
    exact ⟨rfl, HF.out.1.trans HF1.out⟩
end Go.Proofs.Ytmgnekjhlfghaaa

/-
  state: views in the laws.
-/
namespace Go.Proofs.Ytmgnekjhlfghaaa
open Go.RowKit
set_option linter.unusedVariables false
set_option linter.unusedSimpArgs false

/-- A view, boxed. -/
abbrev vO (res : Int) (a : Option Addr) (n : Nat) : Obj := .cells #[.int .i64 res, .slice a n n] 47
/-- Places that show a state. -/
structure VOk (v : SV) (l : List (PV × TS)) : Prop where
  wf : v.wf
  eq : l.map (·.1) = v.places
  c : ∀ x, x ∈ l → x.2.c = x.1.log.length
theorem VOk.len {v : SV} {l : List (PV × TS)} (h : VOk v l) : l.length = v.q.rows.length := by
  have h1 := congrArg List.length h.eq
  unfold SV.places at h1
  simpa using h1
theorem VOk.nth {v : SV} {l : List (PV × TS)} (h : VOk v l) {k : Nat} (hk : k < l.length) : (pL.nth l k).1 = v.place k := by
  have h1 := congrArg (fun m => m[k]?) h.eq
  have hk2 : k < v.q.rows.length := by rw [← h.len]; exact hk
  simp only [List.getElem?_map, pL.nth_get hk, SV.places, List.getElem?_range hk2, Option.map_some, Option.some.injEq] at h1
  exact h1
theorem VOk.small {v : SV} {l : List (PV × TS)} (h : VOk v l) : l.length ≤ 8 ∧ ∀ x, x ∈ l → x.1.log.length ≤ 32 := by
  refine ⟨by rw [h.len]; exact h.wf.q.n, fun x hx => ?_⟩
  have h2 : x.1 ∈ v.places := by rw [← h.eq]; exact List.mem_map_of_mem hx
  unfold SV.places at h2
  obtain ⟨k, hk, e⟩ := List.mem_map.1 h2
  rw [← e]
  have hk : k < v.logs.length := by rw [h.wf.nl]; simpa using hk
  exact (h.wf.lg (v.logs.getD k []) (by rw [List.getD, List.getElem?_eq_getElem hk]; exact List.getElem_mem hk)).1
theorem St.vok {W : Base} {w : World} {R : List Thing} (H : St W w R) (i : Nat) {a : Option Addr} {v : SV} {l : List (PV × TS)} (hi : R[i]? = some (VwT a l)) (h : VOk v l) : PlIn w a l.length l.length l := H.plIn i hi h.c h.small.1 h.small.2
end Go.Proofs.Ytmgnekjhlfghaaa
