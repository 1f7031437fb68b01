/-
  The walk of DiskDoes.
-/
import Derived.Test.YtkkahkgjedgjnaaPlayed
namespace Go.Proofs.Ytkkahkgjedgjnaa
open Go.RowKit
set_option linter.unusedVariables false
set_option linter.unusedSimpArgs false

theorem ref_new_bad04 (w : World) (n : Int) (h : n < 1 ∨ 1026 < n) :
    Calls Try.prog 33 #[.int .i64 n] w fun e w' => e = .returned (.tuple #[.pointer none, .int .i64 40]) ∧ w = w' := by
  rcases h with h | h
  · go_enter Try.func33, Try.ntmps33
    go_wp2
    go_ret2
    exact ⟨rfl, rfl⟩
  · have h1 : ¬ n < 1 := by omega
    go_enter Try.func33, Try.ntmps33
    go_wp2
    go_ret2
    exact ⟨rfl, rfl⟩

theorem st_new {W : Base} {w : World} {R : List Thing} (H : St W w R) (n : Nat) (h1 : 1 ≤ n) (h2 : n ≤ 1026) :
    Calls Try.prog 32 #[.int .i64 n] w fun e w' => ∃ D, e = .returned (.tuple #[.pointer (some ⟨D, 0, none⟩), .int .i64 0]) ∧ St W w' (R ++ [DkT D (DS.new n)]) := by
  refine (disk_new_ok w n h1 h2).mono ?_
  rintro e w' ⟨D, F, rfl, hF, hD, hb⟩
  exact ⟨D, rfl, H.new hF inferInstance hD hb⟩

set_option maxHeartbeats 1600000 in
set_option maxRecDepth 100000 in
theorem does04_any (w : World) (n : Int) (n1 : -9223372036854775808 ≤ n) (n2 : n ≤ 9223372036854775807)
    (s : Option Addr) (ns cs : Nat) (U : Nat → Value) (hT : SlIn w 5 48 s ns cs U) (hq0 : ∀ i, i < ns → I64 (U (i * 5))) (hq1 : ∀ i, i < ns → I64 (U (i * 5 + 1))) (hq2 : ∀ i, i < ns → I64 (U (i * 5 + 2))) (hq3 : ∀ i, i < ns → I64 (U (i * 5 + 3))) (hq4 : ∀ i, i < ns → Str (U (i * 5 + 4))) :
    Calls Try.prog 9 #[.int .i64 n, .slice s ns cs] w fun e w' => e = .returned (.bool true) ∧ Fr [] w w' := by
  by_cases hn : n < 1 ∨ 1026 < n
  · have HN := hid (disk_new_bad w n hn)
    have HM := hid (ref_new_bad04 w n hn)
    clear hn hT hq0 hq1 hq2 hq3 hq4
    go_enter Try.func9, Try.ntmps9
    go_wp2_with fail
    refine (HN.out).mono ?_
    rintro e w101 ⟨rfl, rfl⟩
    go_wp2_with fail
    refine (HM.out).mono ?_
    rintro e w102 ⟨rfl, rfl⟩
    go_wp2_with fail
    refine (fixed04 _).mono ?_
    rintro e w103 ⟨rfl, hF2⟩
    go_wp2_with fail
    go_ret
    exact ⟨rfl, hF2⟩
  obtain ⟨nn, rfl⟩ : ∃ nn : Nat, n = nn := ⟨n.toNat, by omega⟩
  have hn1 : 1 ≤ nn := by omega
  have hn2 : nn ≤ 1026 := by omega
  have H := St.refl w
  have HP := hid (fun w1 D X (h : St (.of w) w1 [DkT D (DS.new nn), XkT X (DS.new nn)]) => played_any h (new_wf hn1 hn2) rfl s ns cs U hT hq0 hq1 hq2 hq3 hq4)
  clear hq0 hq1 hq2 hq3 hq4 hT hn
  go_enter Try.func9, Try.ntmps9
  go_wp2_with fail
  refine (st_new H nn hn1 hn2).mono ?_
  clear H
  rintro e w104 ⟨D, rfl, H⟩
  try simp only [List.nil_append, List.cons_append, List.set_cons_zero, List.set_cons_succ] at H
  go_wp2_with fail
  refine (st_ref_new H nn hn1 hn2).mono ?_
  clear H
  rintro e w105 ⟨X, rfl, H⟩
  try simp only [List.nil_append, List.cons_append, List.set_cons_zero, List.set_cons_succ] at H
  go_wp2_with fail
  refine (HP.out _ D X H).mono ?_
  rintro e w1 ⟨rfl, hF1⟩
  go_wp2_with fail
  refine (fixed04 _).mono ?_
  rintro e w106 ⟨rfl, hF2⟩
  go_wp2_with fail
  go_ret
  exact ⟨rfl, hF1.trans hF2⟩

end Go.Proofs.Ytkkahkgjedgjnaa
