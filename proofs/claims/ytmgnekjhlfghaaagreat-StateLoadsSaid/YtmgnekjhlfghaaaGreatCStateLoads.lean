/-
  StateLoads: the walk.
-/
import Derived.Test.YtmgnekjhlfghaaaGreatM33
import Derived.Test.YtmgnekjhlfghaaaGreatM37
namespace Go.Proofs.YtmgnekjhlfghaaaGreat
open Go.RowKit
set_option linter.unusedVariables false
set_option linter.unusedSimpArgs false

theorem sload_bad17 (w : World) (n : Int) (b : ByteArray) (h : n < 1 ∨ 8 < n) :
    Calls Tryz.prog 21 #[.int .i64 n, .string b] w fun e w' => e = .returned (.tuple #[.pointer none, .int .i64 1]) ∧ w = w' := by
  have HQ := hid (state_new_bad w n h)
  clear h
  go_enter Tryz.func21, Tryz.ntmps21
  go_wp2_with (go_at_call 6; refine HQ.out.mono ?_; rintro e w1 ⟨rfl, rfl⟩)
  exact bodyPost_ret (v := .tuple #[.pointer none, .int .i64 1]) (by simp [results, Tryz.results21, go_sem]) rfl ⟨rfl, rfl⟩
set_option maxHeartbeats 1000000 in
set_option maxRecDepth 100000 in
theorem stateLoads_walk (w : World) (n : Int) (h1 : -9223372036854775808 ≤ n) (h2 : n ≤ 9223372036854775807) (b : ByteArray) (hb0 : b.size ≤ 140737488351232) (s : Option Addr) (ns cs : Nat) (l : List Op17) (hO : OpsArg w s ns cs l) :
    Calls Tryz.prog 5 #[.int .i64 n, .string b, .slice s ns cs] w fun e w' => e = .returned (.bool true) ∧ Fr [] w w' := by
  have HO := hid hO
  have hb : b.size ≤ 140737488355328 := by omega
  clear h1 h2 hO hb0
  by_cases hn : n < 1 ∨ 8 < n
  · have HN := hid (fun w => sload_bad17 w n b hn)
    have HX := hid (fun w => tload_bad w n b hn)
    clear hn
    go_enter Tryz.func5, Tryz.ntmps5
    go_wp2_with (first | (go_at_call 21; refine (HN.out _).mono ?_; rintro e w1 ⟨rfl, rfl⟩) | (go_at_call 22; refine (HX.out _).mono ?_; rintro e w2 ⟨rfl, rfl⟩) | (go_at_call 19; refine (fixed17 _).mono ?_; rintro e w3 ⟨rfl, hF2⟩))
    go_ret
    exact ⟨rfl, hF2⟩
  · have HN := hid (show 1 ≤ n ∧ n ≤ 8 from by omega)
    have H := St.refl w
    have hL := st_sload H n HN.out.1 HN.out.2 b hb
    have HT := hid (fun (wx : World) (R : List Thing) (h : St (.of w) wx R) => st_tload h n HN.out.1 HN.out.2 b hb)
    have HSD := hid (fun v (h : loadS n b = some v) => loadS_sound hb h)
    rcases hv : loadS n b with _ | v
    · rw [hv] at hL HT
      have HL := hid hL
      clear hn hL H hv
      go_enter Tryz.func5, Tryz.ntmps5
      go_wp2_with fail
      refine HL.out.mono ?_
      rintro e w1 ⟨rfl, H⟩
      have H := hid H
      go_wp2_with fail
      refine (HT.out _ _ H.out).mono ?_
      rintro e w2 ⟨rfl, H⟩
      have H := hid H
      go_wp2_with (go_at_call 19; refine (fixed17 _).mono ?_; rintro e w3 ⟨rfl, hF2⟩)
      go_ret
      exact ⟨rfl, H.out.fr.trans hF2⟩
    · rw [hv] at hL HT
      have HL := hid hL
      have HV := hid (HSD.out v hv)
      clear hn hL H hv
      go_enter Tryz.func5, Tryz.ntmps5
      go_wp2_with fail
      refine HL.out.mono ?_
      rintro e w1 ⟨S, rfl, H⟩
      have H := hid H
      go_wp2_with fail
      refine (HT.out _ _ H.out).mono ?_
      rintro e w2 ⟨X, rfl, H⟩
      have H : St (.of w) w2 [SkT S v, XsT X v] := H
      have H := hid H
      go_wp2_with fail
      refine (st_text H.out 0 rfl HV.out.1 HV.out.2.2).mono ?_
      rintro e w3 ⟨rfl, H3⟩
      have H3 := hid H3
      go_wp2_with fail
      refine (played17 H3.out HV.out.1 n HV.out.2.1 s ns cs l HO.out).mono ?_
      rintro e w5 ⟨rfl, hF5⟩
      have HF := hid hF5
      clear hF5
      go_wp2_with (go_at_call 19; refine (fixed17 _).mono ?_; rintro e w6 ⟨rfl, hF2⟩)
      go_ret
      exact ⟨rfl, HF.out.trans hF2⟩
end Go.Proofs.YtmgnekjhlfghaaaGreat
