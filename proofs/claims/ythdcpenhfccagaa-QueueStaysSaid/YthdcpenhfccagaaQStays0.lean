/-
  Queue: what stays. Plain.
-/
import Derived.Test.YthdcpenhfccagaaQChg
import Derived.Test.YthdcpenhfccagaaQKeeps
namespace Go.Proofs.Ythdcpenhfccagaa
open Go.RowKit
set_option linter.unusedVariables false
set_option linter.unusedSimpArgs false

/-- Settled rows stay; attempts and badges only grow. -/
structure Stay (q q' : QS) : Prop where
  len : q.rows.length ≤ q'.rows.length
  att : q'.att = q.att
  st : ∀ k, k < q.rows.length → (qL.nth q.rows k).st = 3 ∨ (qL.nth q.rows k).st = 4 → qL.nth q'.rows k = qL.nth q.rows k
  at_ : ∀ k, k < q.rows.length → (qL.nth q.rows k).at_ ≤ (qL.nth q'.rows k).at_
  ba : ∀ k, k < q.rows.length → (qL.nth q.rows k).ba ≤ (qL.nth q'.rows k).ba

theorem chg_stay {q q' : QS} {z : Bool} (h : Chg q q' z) : Stay q q' := by
  rcases h with ⟨rfl, rfl⟩ | ⟨x, rfl, rfl, _⟩ | ⟨k, x, rfl, hk, rfl, hx, ha, hb, hs⟩
  · exact ⟨Nat.le_refl _, rfl, fun _ _ _ => rfl, fun _ _ => Int.le_refl _, fun _ _ => Int.le_refl _⟩
  · have hn : ∀ k, k < q.rows.length → qL.nth (q.rows ++ [x]) k = qL.nth q.rows k := fun k hk => by rw [qL.nth_snoc, if_neg (by omega)]
    exact ⟨by simp, rfl, fun k hk _ => hn k hk, fun k hk => by show _ ≤ (qL.nth (q.rows ++ [x]) k).at_; rw [hn k hk]; exact Int.le_refl _, fun k hk => by show _ ≤ (qL.nth (q.rows ++ [x]) k).ba; rw [hn k hk]; exact Int.le_refl _⟩
  · have hn : ∀ j, qL.nth (q.rows.set k x) j = if j = k then x else qL.nth q.rows j := fun j => qL.nth_set _ _ _ _ hk
    refine ⟨by simp, rfl, fun j hj h => ?_, fun j hj => ?_, fun j hj => ?_⟩
    · show qL.nth (q.rows.set k x) j = _
      rw [hn]
      by_cases e : j = k
      · subst e; omega
      · rw [if_neg e]
    · show _ ≤ (qL.nth (q.rows.set k x) j).at_
      rw [hn]
      by_cases e : j = k
      · subst e; rw [if_pos rfl]; exact ha
      · rw [if_neg e]; exact Int.le_refl _
    · show _ ≤ (qL.nth (q.rows.set k x) j).ba
      rw [hn]
      by_cases e : j = k
      · subst e; rw [if_pos rfl]; exact hb
      · rw [if_neg e]; exact Int.le_refl _

/-- The badge that was granted last is in the rows. -/
def Last (b : Int) (q : QS) : Prop := b = 0 ∨ ∃ k, k < q.rows.length ∧ b ≤ (qL.nth q.rows k).ba

theorem last_stay {b : Int} {q q' : QS} (h : Last b q) (hs : Stay q q') : Last b q' := by
  rcases h with h | ⟨k, hk, h⟩
  · exact .inl h
  · exact .inr ⟨k, Nat.lt_of_lt_of_le hk hs.len, Int.le_trans h (hs.ba k hk)⟩

theorem last_grant {b : Int} {q : QS} (h : Last b q) (job badge node life : Int) (hz : (q.grant job badge node life).1 = 0) : b < badge ∧ Last badge (q.grant job badge node life).2 := by
  unfold QS.grant at hz ⊢
  split at hz
  · exact absurd hz (by simp)
  rename_i h1
  split at hz
  · exact absurd hz (by simp)
  rename_i h2
  split at hz
  · exact absurd hz (by simp)
  rename_i h3
  split at hz
  · exact absurd hz (by simp)
  rename_i h4
  rw [if_neg h1, if_neg h2, if_neg h3, if_neg h4]
  have hg := pGrant_none (b := badge) (l := q.rows) (by omega)
  have hb : inB badge 1 1099511627776 = true := by cases hh : inB badge 1 1099511627776; exact absurd (.inl hh) h3; rfl
  unfold inB at hb
  simp only [Bool.and_eq_true, decide_eq_true_eq] at hb
  refine ⟨?_, .inr ⟨(job - 1).toNat, by simp only [List.length_set]; omega, ?_⟩⟩
  · rcases h with h | ⟨k, hk, h⟩
    · omega
    · have := hg k hk; omega
  · show badge ≤ (qL.nth (q.rows.set _ _) _).ba
    rw [qL.nth_set _ _ _ _ (by omega), if_pos rfl]
    exact Int.le_refl _

theorem settled_any (w : World) (x : QR) (b : Bool) (hb : (x.st == 3 || x.st == 4) = b) : Calls Try.prog 30 #[.agg #[.int .i64 x.job, .int .i64 x.st, .int .i64 x.at_, .int .i64 x.ba, .int .i64 x.node, .int .i64 x.life, .int .i64 x.code, .int .u64 x.bits]] w fun e w' => e = .returned (.bool b) ∧ Fr [] w w' := by
  have HB := hid hb
  clear hb
  by_cases h : x.st = 3
  · go_enter Try.func30, Try.ntmps30
    go_wp2
    go_ret
    exact ⟨ret_bool (by have h1 := HB.out; simp_all), (Fr.refl _ _).alloc _⟩
  · go_enter Try.func30, Try.ntmps30
    go_wp2
    go_ret
    exact ⟨ret_bool (by have h1 := HB.out; simp_all), (Fr.refl _ _).alloc _⟩

section
variable {W : Base} {w : World} {R : List Thing}
theorem St.emptyIn (H : St W w R) (o : Obj) (sz : Nat) (V : Nat → Value) : St W (w.alloc o) (R ++ [InT sz (some ⟨w.heap.size, 0, none⟩) 0 0 V]) :=
  H.new ((Fr.refl _ _).alloc o) (A := In1 sz (some ⟨w.heap.size, 0, none⟩) 0 0 V) (F := [w.heap.size]) inferInstance ⟨rfl, ⟨Nat.le_refl _, by decide, fun h => absurd h (Nat.lt_irrefl _), fun b off e j hj => absurd hj (by simp)⟩, fun p hp => by cases hp; simp⟩ (by simp)
end

end Go.Proofs.Ythdcpenhfccagaa
