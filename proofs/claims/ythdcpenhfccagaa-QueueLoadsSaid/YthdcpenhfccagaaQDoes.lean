/-
  The walks of QueueDoes, QueueLoads.
-/
import Derived.Test.YthdcpenhfccagaaQPlayed
namespace Go.Proofs.Ythdcpenhfccagaa
open Go.RowKit
set_option linter.unusedVariables false
set_option linter.unusedSimpArgs false

set_option maxHeartbeats 1600000 in
set_option maxRecDepth 100000 in
theorem qdoes_any (w : World) (n : Int) (s : Option Addr) (ns cs : Nat) (l : Nat → Op11) (hO : Ops11 w s ns cs l) :
    Calls Try.prog 8 #[.int .i64 n, .slice s ns cs] w fun e w' => e = .returned (.bool true) ∧ Fr [] w w' := by
  by_cases hn : n < 1 ∨ 8 < n
  · have HN := hid (queue_new_bad w n hn)
    have HM := hid (xnew_bad w n hn)
    clear hn hO
    go_enter Try.func8, Try.ntmps8
    go_wp2_with fail
    refine (HN.out).mono ?_
    rintro e w101 ⟨rfl, rfl⟩
    go_wp2_with fail
    refine (HM.out).mono ?_
    rintro e w102 ⟨rfl, rfl⟩
    go_wp2_with fail
    refine (fixed11 _).mono ?_
    rintro e w103 ⟨rfl, hF2⟩
    go_wp2_with fail
    go_ret
    exact ⟨rfl, hF2⟩
  have H := St.refl w
  have HO := hid hO
  clear hO
  go_enter Try.func8, Try.ntmps8
  go_wp2_with fail
  refine (st_qnew H n (by omega) (by omega)).mono ?_
  clear H
  rintro e w104 ⟨Q, rfl, H⟩
  try simp only [List.nil_append, List.cons_append, List.set_cons_zero, List.set_cons_succ] at H
  go_wp2_with fail
  refine (st_xnew H n (by omega) (by omega)).mono ?_
  clear H
  rintro e w105 ⟨X, rfl, H⟩
  try simp only [List.nil_append, List.cons_append, List.set_cons_zero, List.set_cons_succ] at H
  go_wp2_with fail
  refine (played11 H (qnew_wf (by omega) (by omega)) s ns cs l HO.out).mono ?_
  rintro e w3 ⟨rfl, hF⟩
  have HF := hid hF
  clear H hF hn
  go_wp2_with fail
  refine (fixed11 _).mono ?_
  rintro e w106 ⟨rfl, hF2⟩
  go_wp2_with fail
  go_ret
  exact ⟨rfl, HF.out.trans hF2⟩

theorem qdoes_walk (w : World) (n : Int) (n1 : -9223372036854775808 ≤ n) (n2 : n ≤ 9223372036854775807) (s : Option Addr) (ns cs : Nat) (U : Nat → Value) (hT : SlIn w 8 64 s ns cs U) (hq0 : ∀ i, i < ns → I64 (U (i * 8))) (hq1 : ∀ i, i < ns → I64 (U (i * 8 + 1))) (hq2 : ∀ i, i < ns → I64 (U (i * 8 + 2))) (hq3 : ∀ i, i < ns → I64 (U (i * 8 + 3)))
    (hq4 : ∀ i, i < ns → I64 (U (i * 8 + 4))) (hq5 : ∀ i, i < ns → I64 (U (i * 8 + 5))) (hq6 : ∀ i, i < ns → I64 (U (i * 8 + 6))) (hq7 : ∀ i, i < ns → U64 (U (i * 8 + 7))) :
    Calls Try.prog 8 #[.int .i64 n, .slice s ns cs] w fun e w' => e = .returned (.bool true) ∧ Fr [] w w' := by
  obtain ⟨l, hO⟩ := ops11_of hT hq0 hq1 hq2 hq3 hq4 hq5 hq6 hq7
  exact qdoes_any w n s ns cs l hO

end Go.Proofs.Ythdcpenhfccagaa
