/-
  StateDoes: the walk.
-/
import Derived.Test.YtmgnekjhlfghaaaGreatM33
namespace Go.Proofs.YtmgnekjhlfghaaaGreat
open Go.RowKit
set_option linter.unusedVariables false
set_option linter.unusedSimpArgs false

set_option maxHeartbeats 1000000 in
set_option maxRecDepth 100000 in
theorem stateDoes_walk (w : World) (n : Int) (h1 : -9223372036854775808 ≤ n) (h2 : n ≤ 9223372036854775807) (s : Option Addr) (ns cs : Nat) (l : List Op17) (hO : OpsArg w s ns cs l) :
    Calls Tryz.prog 4 #[.int .i64 n, .slice s ns cs] w fun e w' => e = .returned (.bool true) ∧ Fr [] w w' := by
  have HO := hid hO
  clear h1 h2 hO
  by_cases hn : n < 1 ∨ 8 < n
  · have HN := hid (fun w => state_new_bad w n hn)
    have HX := hid (fun w => tnew_bad w n hn)
    clear hn
    go_enter Tryz.func4, Tryz.ntmps4
    go_wp2_with (first | (go_at_call 6; refine (HN.out _).mono ?_; rintro e w1 ⟨rfl, rfl⟩) | (go_at_call 7; refine (HX.out _).mono ?_; rintro e w2 ⟨rfl, rfl⟩) | (go_at_call 19; refine (fixed17 _).mono ?_; rintro e w3 ⟨rfl, hF2⟩))
    go_ret
    exact ⟨rfl, hF2⟩
  · have HN := hid (show 1 ≤ n ∧ n ≤ 8 from by omega)
    have H := St.refl w
    clear hn
    go_enter Tryz.func4, Tryz.ntmps4
    go_wp2_with fail
    refine (st_snew H n HN.out.1 HN.out.2).mono ?_
    clear H
    rintro e w101 ⟨S, rfl, H⟩
    try simp only [List.nil_append, List.cons_append, List.set_cons_zero, List.set_cons_succ] at H
    go_wp2_with fail
    refine (st_tnew H n HN.out.1 HN.out.2).mono ?_
    clear H
    rintro e w102 ⟨X, rfl, H⟩
    try simp only [List.nil_append, List.cons_append, List.set_cons_zero, List.set_cons_succ] at H
    go_wp2_with fail
    refine (played17 H (new_wf HN.out.1 HN.out.2) n rfl s ns cs l HO.out).mono ?_
    rintro e w5 ⟨rfl, hF5⟩
    have HF := hid hF5
    clear hF5 H
    go_wp2_with (go_at_call 19; refine (fixed17 _).mono ?_; rintro e w6 ⟨rfl, hF2⟩)
    go_ret
    exact ⟨rfl, HF.out.trans hF2⟩
end Go.Proofs.YtmgnekjhlfghaaaGreat
