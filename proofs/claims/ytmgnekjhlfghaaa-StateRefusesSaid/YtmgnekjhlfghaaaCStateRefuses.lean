/-
  StateRefuses: the walk.
-/
import Derived.Test.YtmgnekjhlfghaaaM24
namespace Go.Proofs.Ytmgnekjhlfghaaa
open Go.RowKit
set_option linter.unusedVariables false
set_option linter.unusedSimpArgs false

theorem go_step {v u : SV} {l : List CV} {k : Nat} {c : CV} (hu : v.go l 0 = .ok u) (hc : l[k]? = some c) {x : SV} (hx : v.go (l.take k) 0 = .ok x) : ∃ y, x.put [c] = y ∧ x.go [c] 0 = .ok y ∧ v.go (l.take (k + 1)) 0 = .ok y := by
  have hk := (List.getElem?_eq_some_iff.1 hc).1
  have e : l.take (k + 1) = l.take k ++ [c] := by rw [List.take_add_one, hc]; rfl
  have h1 : v.go (l.take (k + 1) ++ l.drop (k + 1)) 0 = .ok u := by rw [List.take_append_drop]; exact hu
  obtain ⟨y, h2, _⟩ := go_split h1
  rw [e] at h2
  have h3 := go_app (r := [c]) hx
  rw [h3] at h2
  have h4 := go_any (v := v) 0 h2
  exact ⟨y, (ret_ok h4).2, h4, by rw [e, h3]; exact h2⟩
set_option maxHeartbeats 4000000 in
set_option maxRecDepth 100000 in
theorem stateRefuses_walk (w : World) (n : Int) (h1 : -9223372036854775808 ≤ n) (h2 : n ≤ 9223372036854775807) (a : Option Addr) (nl cap : Nat) (l : List Op17) (hO : OpsArg w a nl cap l) :
    Calls Try.prog 3 #[.int .i64 n, .slice a nl cap] w fun e w' => e = .returned (.bool true) ∧ Fr [] w w' := by
  have hmx := hO.row.max
  clear h1 h2
  by_cases hn : n < 1 ∨ 8 < n
  · have HN := hid (fun w => state_new_bad w n hn)
    have h1 : decide (n < 1) = true ∨ decide (n < 1) = false ∧ decide (8 < n) = true := by
      rcases hn with h | h
      · exact .inl (decide_eq_true h)
      · by_cases h2 : n < 1
        · exact .inl (decide_eq_true h2)
        · exact .inr ⟨decide_eq_false h2, decide_eq_true h⟩
    clear hn hO hmx
    rcases h1 with h1 | ⟨h1, h2⟩
    · go_enter Try.func3, Try.ntmps3
      go_wp2_with (first | (go_at_call 9; refine (HN.out _).mono ?_; rintro e w1 ⟨rfl, rfl⟩) | (go_at_call 10; refine (fixed17 _).mono ?_; rintro e w2 ⟨rfl, hF2⟩))
      go_ret
      exact ⟨rfl, hF2⟩
    · go_enter Try.func3, Try.ntmps3
      go_wp2_with (first | (go_at_call 9; refine (HN.out _).mono ?_; rintro e w1 ⟨rfl, rfl⟩) | (go_at_call 10; refine (fixed17 _).mono ?_; rintro e w2 ⟨rfl, hF2⟩))
      go_ret
      exact ⟨rfl, hF2⟩
  have hlen := hid hO.len
  have HO := hid hO
  have H := St.refl w
  clear hO
  go_enter Try.func3, Try.ntmps3
  go_wp2_with fail
  refine (st_snew H n (by omega) (by omega)).mono ?_
  clear H
  rintro e w101 ⟨S, rfl, H⟩
  try simp only [List.nil_append, List.cons_append, List.set_cons_zero, List.set_cons_succ] at H
  go_wp2_with fail
  refine (st_snew H n (by omega) (by omega)).mono ?_
  clear H
  rintro e w102 ⟨T, rfl, H⟩
  try simp only [List.nil_append, List.cons_append, List.set_cons_zero, List.set_cons_succ] at H
  go_wp2_with fail
  have hw0 : (SV.new n).wf := new_wf (by omega) (by omega)
  have HI := hid (And.intro H hw0)
  clear H hw0 hn
  go_loopw [9] (fun iv wr => ∃ (k : Nat) (v : SV), k ≤ nl ∧ iv = .int .i64 k ∧ v.wf ∧ St (.of w) wr [SkT S v, SkT T v]) (fun iv _ => nl - (intOf iv).toNat)
  case atStart => exact ⟨0, _, Nat.zero_le _, rfl, HI.out.2, HI.out.1⟩
  case round =>
    clear HI
    obtain ⟨k, v, hk, rfl, hv, H⟩ := hrel
    have HV := hid hv
    by_cases hlt : k < nl
    · obtain ⟨bb, ob, rfl⟩ := HO.out.row.sm (by omega)
      obtain ⟨x, hx⟩ : ∃ x, oL.nth l k = x := ⟨_, rfl⟩
      have hxl : x ∈ l := by rw [← hx]; exact oL.mem_nth (by rw [hlen.out]; exact hlt)
      have hone := HO.out.one x hxl
      have HX := hid hone.ch.ch
      have HXL := hid hone.ch.le
      have hxm := hone.ch.ch.row.max
      have HCELL := hid (fun (wx : World) (hF : Fr [] w wx) => op_cells (HO.out.row.fr0 hF) k hlt x hx)
      have hk1 : (k : Int) < nl := by omega
      have hk0 : (0 : Int) ≤ k := by omega
      have HLT := hid hlt
      clear hv hx hxl hone hlt hk
      go_wp2_with fail
      refine (st_sbytes H 0 rfl HV.out).mono ?_
      clear H
      rintro e w103 ⟨rfl, H⟩
      try simp only [List.nil_append, List.cons_append, List.set_cons_zero, List.set_cons_succ] at H
      have d3 := (HCELL.out _ H.fr).2.2.2
      rcases hg : v.go (x.ch.map (·.1)) 0 with q | u
      · obtain ⟨q1, q2, _⟩ := go_err hg
        rw [List.length_map] at q2
        have q3 : (q : Int) < x.ch.length := by omega
        have q4 : (0 : Int) ≤ q := by omega
        have HG := hid hg
        clear hg q1 q2
        go_wp2_with fail
        clear d3
        refine (st_apply_no H 0 rfl HV.out x.a x.ch.length x.c x.ch (fun wx T h => HX.out.fr0 h.fr) HG.out).mono ?_
        clear H
        rintro e w104 ⟨rfl, H⟩
        try simp only [List.nil_append, List.cons_append, List.set_cons_zero, List.set_cons_succ] at H
        have HB := hid (st_sbytes H 0 rfl HV.out)
        clear H
        go_wp2_with (go_at_call 11; refine HB.out.mono ?_; rintro e w5 ⟨rfl, H⟩; have d3 := (HCELL.out _ H.fr).2.2.2; have H := hid H)
        exact ⟨⟨k + 1, v, HLT.out, rfl, HV.out, H.out⟩, by have := HLT.out; simp only [intOf]; omega⟩
      · have HG := hid hg
        have hwu : u.wf := go_wf (fun c hc => by obtain ⟨y, hy, rfl⟩ := List.mem_map.1 hc; exact (HX.out.one y hy).2) HV.out hg
        have HU := hid hwu
        clear hg hwu
        go_wp2_with fail
        clear d3
        refine (st_apply_ok H 0 rfl HV.out x.a x.ch.length x.c x.ch (fun wx T h => HX.out.fr0 h.fr) HG.out).mono ?_
        clear H
        rintro e w105 ⟨rfl, H⟩
        try simp only [List.nil_append, List.cons_append, List.set_cons_zero, List.set_cons_succ] at H
        have HH := hid H
        clear H
        go_wp2_with fail
        obtain ⟨wo, rfl⟩ : ∃ wo : World, wo = wr := ⟨_, rfl⟩
        go_loopw [13] (fun jv wi => ∃ (j : Nat) (y : SV), j ≤ x.ch.length ∧ jv = .int .i64 j ∧ y.wf ∧ Hid (v.go ((x.ch.map (·.1)).take j) 0 = .ok y) ∧ St (.of w) wi [SkT S u, SkT T y]) (fun jv _ => x.ch.length - (intOf jv).toNat)
        case atStart => exact ⟨0, v, Nat.zero_le _, rfl, HV.out, hid rfl, HH.out⟩
        case round =>
          clear HH
          obtain ⟨j, y, hj, rfl, hy, hgy, H⟩ := hrel
          have HY := hid hy
          have d3 := (HCELL.out _ H.fr).2.2.2
          by_cases hjl : j < x.ch.length
          · obtain ⟨ba, oa, hxa⟩ := HX.out.row.sm (by omega)
            obtain ⟨c, hc⟩ : ∃ c, x.ch[j]? = some c := ⟨_, List.getElem?_eq_getElem hjl⟩
            obtain ⟨z, hz1, hz2, hz3⟩ := go_step HG.out (show (x.ch.map (·.1))[j]? = some c.1 by rw [List.getElem?_map, hc]; rfl) hgy.out
            have hin : ∀ wx, Fr [] w wx → ChIn wx (some ⟨ba, oa + j * 10, none⟩) 1 (x.c - j) [c] := fun wx hF => by
              have h1 := HX.out.fr0 hF
              rw [hxa] at h1
              have h2 := h1.part j 1 (by omega)
              rwa [part_one hc] at h2
            have hzw : z.wf := go_wf (fun c' h => by rw [List.mem_singleton.1 h]; exact (HX.out.one c (List.mem_of_getElem? hc)).2) hy hz2
            have HZ := hid (And.intro hzw (And.intro hz2 hz3))
            have HIN := hid hin
            have hjw : IntKind.i64.wrap ((j : Int) + 1) = (j : Int) + 1 := IntWalk.i64_in _ (by omega)
            have hjc : j < x.c := by have := HXL.out; omega
            have HJ := hid hjl
            rw [hxa] at d3
            clear hy hgy hz1 hz2 hz3 hzw hin hc hxa hj
            have hj0 : (0 : Int) ≤ j := by omega
            have hj1 : (j : Int) < x.ch.length := by omega
            have HA := hid (st_apply_ok H 1 rfl HY.out (some ⟨ba, oa + j * 10, none⟩) 1 (x.c - j) [c] (fun wx T h => HIN.out wx h.fr) HZ.out.2.1)
            clear H
            go_wp2_with (go_at_call 12; refine HA.out.mono ?_; rintro e w6 ⟨rfl, H⟩; have H := hid H)
            exact ⟨⟨j + 1, z, HJ.out, rfl, HZ.out.1, hid HZ.out.2.2, H.out⟩, by have := HJ.out; simp only [intOf]; omega⟩
          · have hje : j = x.ch.length := by omega
            have hyu : y = u := by
              have h1 := hgy.out
              rw [hje, List.take_of_length_le (by rw [List.length_map]; exact Nat.le_refl _), HG.out] at h1
              injection h1 with h1
              exact h1.symm
            subst hyu
            have hj1 : ¬ (j : Int) < x.ch.length := by omega
            have HB := hid (st_sbytes H 0 rfl HY.out)
            clear hy hgy hj hjl hje H
            go_wp2_with fail
            refine HB.out.mono ?_
            rintro e w5 ⟨rfl, H⟩
            have HB2 := hid (st_sbytes H 1 rfl HY.out)
            clear d3 H
            go_wp2_with (go_at_call 11; refine HB2.out.mono ?_; rintro e w6 ⟨rfl, H⟩; have H := hid H)
            exact ⟨⟨k + 1, y, HLT.out, rfl, HY.out, H.out⟩, by have := HLT.out; simp only [intOf]; omega⟩
    · have hk1 : ¬ (k : Int) < nl := by omega
      have HH := hid H
      clear H hv hlt hk
      go_wp2_with (go_at_call 10; refine (fixed17 _).mono ?_; rintro e w2 ⟨rfl, hF2⟩)
      go_ret
      exact ⟨rfl, HH.out.fr.trans hF2⟩
end Go.Proofs.Ytmgnekjhlfghaaa
