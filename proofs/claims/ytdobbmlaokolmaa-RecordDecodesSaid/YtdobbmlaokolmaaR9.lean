/-
  record: Decode's deferred closure.
-/
import Derived.Test.YtdobbmlaokolmaaR7
import Derived.Test.YtdobbmlaokolmaaPk5
namespace Go.Proofs.Ytdobbmlaokolmaa
open Go.RowKit
set_option linter.unusedVariables false
set_option linter.unusedSimpArgs false

section
variable {w : World}
set_option maxHeartbeats 1600000 in
theorem catch_pan_d {lb eb : Nat} {x y : Value}
    (hl : w.heap[lb]? = some (.cells #[x] 28)) (he : w.heap[eb]? = some (.cells #[y] 30)) :
    CallsD Try.prog 33 #[.pointer (some ⟨lb, 0, none⟩), .pointer (some ⟨eb, 0, none⟩)] (.panicking wg) w fun e u' w' => e = .returned (.tuple #[]) ∧ (∃ pe, u' = .panicking [{ v := pe, recovered := true }]) ∧ w' = (w.setCell ⟨lb, 0, none⟩ (.slice none 0 0)).setCell ⟨eb, 0, none⟩ (.int .i64 83) := by
  have n1 : lb ≠ eb := ne_of_elem hl he (by decide)
  have c1 : w.cell? ⟨lb, 0, none⟩ = some x := cell_blk hl rfl
  have z1 : w.frozen? ⟨lb, 0, none⟩ = false := free_blk hl
  have c2 : w.cell? ⟨eb, 0, none⟩ = some y := cell_blk he rfl
  have z2 : w.frozen? ⟨eb, 0, none⟩ = false := free_blk he
  refine callsD_of_wpS Try.func33 rfl fun c₀ cs hu => ?_
  apply wpS_seq
  refine wpS_region_rec rfl rfl rfl (.inl (by simp only [recoverD, hu, wg]; exact rfl)) ?_
  simp only [Try.ntmps33, List.size_toArray, List.length_cons, List.length_nil, Nat.reduceAdd, Nat.reduceSub, Array.replicate_succ,
     Array.replicate_zero, List.push_toArray, List.append_toArray, List.nil_append, List.cons_append]
  go_wp2_with fail
  refine wpS_of_wp ?_
  clear hl he
  go_wp2_with fail
  exact ⟨rfl, _, rfl, _, results_none rfl _ _ _, rfl, ⟨_, rfl⟩, rfl⟩

set_option maxHeartbeats 1600000 in
theorem catch_idle_d {lb eb : Nat} :
    CallsD Try.prog 33 #[.pointer (some ⟨lb, 0, none⟩), .pointer (some ⟨eb, 0, none⟩)] .returning w fun e u' w' => e = .returned (.tuple #[]) ∧ u' = .returning ∧ w' = w := by
  refine callsD_of_wpS Try.func33 rfl fun c₀ cs hu => ?_
  apply wpS_seq
  refine wpS_region_rec rfl rfl rfl (.inr ⟨by simp only [recoverD, hu], rfl, rfl⟩) ?_
  simp only [Try.ntmps33, List.size_toArray, List.length_cons, List.length_nil, Nat.reduceAdd, Nat.reduceSub, Array.replicate_succ,
     Array.replicate_zero, List.push_toArray, List.append_toArray, List.nil_append, List.cons_append]
  go_wp2_with fail
  refine wpS_of_wp ?_
  go_wp2_with fail
  exact ⟨rfl, .returning, by rw [← hu], _, results_none rfl _ _ _, rfl, rfl, rfl⟩
theorem enter_decode1 (args : Array Value) (w : World) : (callFunc 33 args).run Try.prog w = .ok (.enter 33 args) w := run_enter Try.func33 (by kernel_rfl) rfl args w
end
end Go.Proofs.Ytdobbmlaokolmaa
