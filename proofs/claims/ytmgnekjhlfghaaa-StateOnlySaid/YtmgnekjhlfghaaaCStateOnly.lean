/-
  StateOnly: the walk.
-/
import Derived.Test.YtmgnekjhlfghaaaM26
import Derived.Test.YtmgnekjhlfghaaaM24
namespace Go.Proofs.Ytmgnekjhlfghaaa
open Go.RowKit
set_option linter.unusedVariables false
set_option linter.unusedSimpArgs false

set_option maxHeartbeats 4000000 in
set_option maxRecDepth 100000 in
theorem stateOnly_walk (w : World) (a0 : Option Addr) (n0 c0 : Nat) (l0 : List (CV × TS)) (hC0 : ChArg w a0 n0 c0 l0) (a1 : Option Addr) (n1 c1 : Nat) (l1 : List (CV × TS)) (hC1 : ChArg w a1 n1 c1 l1) (a2 : Option Addr) (n2 c2 : Nat) (l2 : List (CV × TS)) (hC2 : ChArg w a2 n2 c2 l2) :
    Calls Try.prog 8 #[.slice a0 n0 c0, .slice a1 n1 c1, .slice a2 n2 c2] w fun e w' => e = .returned (.bool true) ∧ Fr [] w w' := by
  have hm0 := hC0.ch.row.max
  have hm1 := hC1.ch.row.max
  have hm2 := hC2.ch.row.max
  have HC0 := hid hC0.ch
  have HC1 := hid hC1.ch
  have HC2 := hid hC2.ch
  have HL0 := hid hC0.le
  have HL1 := hid hC1.le
  have HL2 := hid hC2.le
  have H := St.refl w
  clear hC0 hC1 hC2
  go_enter Try.func8, Try.ntmps8
  go_wp2_with fail
  refine (st_snew H 3 (by decide) (by decide)).mono ?_
  clear H
  rintro e w101 ⟨S, rfl, H⟩
  try simp only [List.nil_append, List.cons_append, List.set_cons_zero, List.set_cons_succ] at H
  go_wp2_with fail
  refine (st_snew H 3 (by decide) (by decide)).mono ?_
  clear H
  rintro e w102 ⟨S2, rfl, H⟩
  try simp only [List.nil_append, List.cons_append, List.set_cons_zero, List.set_cons_succ] at H
  go_wp2_with fail
  have hw0 : (SV.new 3).wf := new_wf (by decide) (by decide)
  have HI := hid (And.intro H hw0)
  clear H hw0
  go_loopw [11] (fun iv wr => ∃ (k : Nat) (v : SV), k ≤ n0 ∧ iv = .int .i64 k ∧ v.wf ∧ v.q.att = 3 ∧ St (.of w) wr [SkT S v, SkT S2 (SV.new 3)]) (fun iv _ => n0 - (intOf iv).toNat)
  case atStart => exact ⟨0, _, Nat.zero_le _, rfl, HI.out.2, rfl, HI.out.1⟩
  case round =>
    have hw0 := hid HI.out.2
    clear HI
    obtain ⟨k, v, hk, rfl, hv, ha, H⟩ := hrel
    by_cases hlt : k < n0
    · have hk0 : (0 : Int) ≤ k := by omega
      obtain ⟨bb, ob, rfl⟩ := HC0.out.row.sm (by omega)
      obtain ⟨x, hx⟩ : ∃ x, l0[k]? = some x := ⟨_, List.getElem?_eq_getElem (by rw [HC0.out.len]; exact hlt)⟩
      have hpart := fun (wx : World) (hF : Fr [] w wx) => (HC0.out.fr0 hF).part k 1 (by omega)
      rw [part_one hx] at hpart
      have hbits := (HC0.out.one x (List.mem_of_getElem? hx)).2
      have hv1 : (v.put [x.1]).wf := put_wf hv (fun c hc => by rw [List.mem_singleton.1 hc]; exact hbits)
      have ha1 := (put_att v [x.1]).trans ha
      have HV := hid hv
      have HP := hid hpart
      have hkc : k < c0 := by have := HL0.out; omega
      have hkw : IntKind.i64.wrap ((k : Int) + 1) = (k : Int) + 1 := IntWalk.i64_in _ (by omega)
      obtain ⟨v1, hv1e⟩ : ∃ v1, v.put [x.1] = v1 := ⟨_, rfl⟩
      rw [hv1e] at hv1 ha1
      have HV1 := hid hv1
      have HA1 := hid ha1
      have HE := hid hv1e
      obtain ⟨r1, r2, hr⟩ := ret_ints v [x.1]
      have HR := hid hr
      clear hv hx hpart hbits hv1 hv1e ha1 ha hr
      go_wp2_with fail
      refine (st_applyR H 0 rfl HV.out (some ⟨bb, ob + k * 10, none⟩) 1 (c0 - k) [x] (fun wx T h => HP.out wx h.fr) v1 HE.out HR.out).mono ?_
      clear H
      rintro e w103 ⟨rfl, H⟩
      try simp only [List.nil_append, List.cons_append, List.set_cons_zero, List.set_cons_succ] at H
      go_wp2_with fail
      exact ⟨⟨k + 1, v1, by omega, by go_num, HV1.out, HA1.out, H⟩, by simp only [intOf]; omega⟩
    · have hk1 : ¬ (k : Int) < n0 := by omega
      have HV0 := hid (And.intro hv ha)
      have HH := hid H
      obtain ⟨u0, hu0⟩ : ∃ u0, v = u0 := ⟨_, rfl⟩
      subst hu0
      clear H hv ha hlt hk
      go_wp2_with fail
      go_loopw [12] (fun iv wr => ∃ (k : Nat) (u : SV), k ≤ n1 ∧ iv = .int .i64 k ∧ u.wf ∧ u.q.att = 3 ∧ St (.of w) wr [SkT S v, SkT S2 u]) (fun iv _ => n1 - (intOf iv).toNat)
      case atStart => exact ⟨0, _, Nat.zero_le _, rfl, hw0.out, rfl, HH.out⟩
      case round =>
        clear HH
        have HV0' := HV0
        obtain ⟨k, u, hk, rfl, hu, hua, H⟩ := hrel
        by_cases hlt : k < n1
        · obtain ⟨bb, ob, rfl⟩ := HC1.out.row.sm (by omega)
          obtain ⟨x, hx⟩ : ∃ x, l1[k]? = some x := ⟨_, List.getElem?_eq_getElem (by rw [HC1.out.len]; exact hlt)⟩
          have hpart := fun (wx : World) (hF : Fr [] w wx) => (HC1.out.fr0 hF).part k 1 (by omega)
          rw [part_one hx] at hpart
          have hbits := (HC1.out.one x (List.mem_of_getElem? hx)).2
          have hv1 : (u.put [x.1]).wf := put_wf hu (fun c hc => by rw [List.mem_singleton.1 hc]; exact hbits)
          have ha1 := (put_att u [x.1]).trans hua
          have HV := hid hu
          have HP := hid hpart
          have hkc : k < c1 := by have := HL1.out; omega
          have hkw : IntKind.i64.wrap ((k : Int) + 1) = (k : Int) + 1 := IntWalk.i64_in _ (by omega)
          obtain ⟨v1, hv1e⟩ : ∃ v1, u.put [x.1] = v1 := ⟨_, rfl⟩
          rw [hv1e] at hv1 ha1
          have HV1 := hid hv1
          have HA1 := hid ha1
          have HE := hid hv1e
          obtain ⟨r1, r2, hr⟩ := ret_ints u [x.1]
          have HR := hid hr
          clear hu hx hpart hbits hv1 hv1e ha1 hua hr
          go_wp2_with fail
          refine (st_applyR H 1 rfl HV.out (some ⟨bb, ob + k * 10, none⟩) 1 (c1 - k) [x] (fun wx T h => HP.out wx h.fr) v1 HE.out HR.out).mono ?_
          clear H
          rintro e w104 ⟨rfl, H⟩
          try simp only [List.nil_append, List.cons_append, List.set_cons_zero, List.set_cons_succ] at H
          go_wp2_with fail
          exact ⟨⟨k + 1, v1, by omega, by go_num, HV1.out, HA1.out, H⟩, by simp only [intOf]; omega⟩
        · have hk2 : ¬ (k : Int) < n1 := by omega
          have HU := hid hu
          have hinj := text_inj HV0.out.1 hu (HV0.out.2.trans hua.symm)
          have hpin := places_inj HV0.out.1 hu (HV0.out.2.trans hua.symm)
          obtain ⟨tv, htv⟩ : ∃ tv, v.text = tv := ⟨_, rfl⟩
          obtain ⟨tu, htu⟩ : ∃ tu, u.text = tu := ⟨_, rfl⟩
          rw [htv, htu] at hinj
          have htt : v = u → tv = tu := fun h => by rw [← htv, ← htu, h]
          have HTV := hid htv
          have HTU := hid htu
          have HT := hid (And.intro hinj (And.intro hpin htt))
          obtain ⟨ze, hze⟩ : ∃ ze, (tv.toList == tu.toList) = ze := ⟨_, rfl⟩
          have hzz : ze = true ↔ tv = tu := by
            rw [← hze]
            constructor
            · intro h
              by_cases he : tv = tu
              · exact he
              · rw [bytes_ne he] at h; cases h
            · rintro rfl; exact beq_self_eq_true _
          have HZZ := hid hzz
          have HK := hid H
          clear H hu hua hlt hk htv htu hinj hpin htt hzz
          go_wp2_with fail
          have H := HK.out
          refine (st_text H 0 rfl HV0.out.1 HTV.out).mono ?_
          clear H
          rintro e w105 ⟨rfl, H⟩
          try simp only [List.nil_append, List.cons_append, List.set_cons_zero, List.set_cons_succ] at H
          go_wp2_with fail
          refine (st_text H 1 rfl HU.out HTU.out).mono ?_
          clear H
          rintro e w106 ⟨rfl, H⟩
          try simp only [List.nil_append, List.cons_append, List.set_cons_zero, List.set_cons_succ] at H
          go_wp2_with fail
          refine (st_sview H 0 rfl HV0.out.1).mono ?_
          clear H
          rintro e w107 ⟨va, vl, rfl, hv1, hv2, H⟩
          try simp only [List.nil_append, List.cons_append, List.set_cons_zero, List.set_cons_succ] at H
          have HVa := hid (show VOk v vl from ⟨HV0.out.1, hv1, hv2⟩)
          clear hv1 hv2
          go_wp2_with fail
          refine (st_sview H 1 rfl HU.out).mono ?_
          clear H
          rintro e w108 ⟨ua, ul, rfl, hv1, hv2, H⟩
          try simp only [List.nil_append, List.cons_append, List.set_cons_zero, List.set_cons_succ] at H
          have HVb := hid (show VOk u ul from ⟨HU.out, hv1, hv2⟩)
          clear hv1 hv2
          have HS := hid (vsame_walkP (tv = tu) _ v.res u.res va ua vl.length ul.length vl.length ul.length vl ul (H.vok 2 rfl HVa.out) (H.vok 3 rfl HVb.out) (by
            rw [HVa.out.eq, HVb.out.eq]
            exact ⟨fun h => by rw [HT.out.1 h]; exact ⟨rfl, rfl⟩, fun h => HT.out.2.2 (HT.out.2.1 h.1 h.2)⟩))
          have HH := hid H
          clear H
          go_wp2_with fail
          refine HS.out.mono ?_
          rintro e w9 ⟨⟨z, rfl, hz⟩, hF9⟩
          have hzz2 : ze = z := Bool.eq_iff_iff.2 (HZZ.out.trans hz.symm)
          have H := HH.out.same hF9
          have H : St (.of w) w9 [SkT S v, SkT S2 u] := H.drop (R := [SkT S v, SkT S2 u]) (T := [_, _])
          have HH2 := hid H
          have HH3 := hid H
          clear hz hF9 H HS HH
          subst hzz2
          go_wp2_with fail
          have H := HH2.out
          refine (st_text H 0 rfl HV0.out.1 HTV.out).mono ?_
          clear H
          rintro e w109 ⟨rfl, H⟩
          try simp only [List.nil_append, List.cons_append, List.set_cons_zero, List.set_cons_succ] at H
          have HLd := st_sload H 3 (by decide) (by decide) tv (by rw [← HTV.out]; exact text_small HV0.out.1)
          rw [show loadS 3 tv = some v by rw [← HTV.out]; exact loadS_text HV0.out.1 HV0.out.2] at HLd
          have HLd := hid HLd
          clear H hze
          go_wp2_with fail
          refine HLd.out.mono ?_
          rintro e w11 ⟨S3, rfl, H⟩
          have H : St (.of w) w11 [SkT S v, SkT S2 u, SkT S3 v] := H
          have HI := hid H
          clear H HLd HH2 HH3 HK
          go_wp2_with fail
          go_loopw [14] (fun iv wr => ∃ (k : Nat) (v : SV), k ≤ n2 ∧ iv = .int .i64 k ∧ v.wf ∧ v.q.att = 3 ∧ St (.of w) wr [SkT S v, SkT S2 u, SkT S3 v]) (fun iv _ => n2 - (intOf iv).toNat)
          case atStart => exact ⟨0, _, Nat.zero_le _, rfl, HV0.out.1, HV0.out.2, HI.out⟩
          case round =>
            clear HI
            obtain ⟨k, v, hk, rfl, hv, ha, H⟩ := hrel
            by_cases hlt : k < n2
            · have hk0 : (0 : Int) ≤ k := by omega
              obtain ⟨bb, ob, rfl⟩ := HC2.out.row.sm (by omega)
              obtain ⟨x, hx⟩ : ∃ x, l2[k]? = some x := ⟨_, List.getElem?_eq_getElem (by rw [HC2.out.len]; exact hlt)⟩
              have hpart := fun (wx : World) (hF : Fr [] w wx) => (HC2.out.fr0 hF).part k 1 (by omega)
              rw [part_one hx] at hpart
              have hbits := (HC2.out.one x (List.mem_of_getElem? hx)).2
              have hv1 : (v.put [x.1]).wf := put_wf hv (fun c hc => by rw [List.mem_singleton.1 hc]; exact hbits)
              have ha1 := (put_att v [x.1]).trans ha
              have HV := hid hv
              have HP := hid hpart
              have hkc : k < c2 := by have := HL2.out; omega
              have hkw : IntKind.i64.wrap ((k : Int) + 1) = (k : Int) + 1 := IntWalk.i64_in _ (by omega)
              obtain ⟨v1, hv1e⟩ : ∃ v1, v.put [x.1] = v1 := ⟨_, rfl⟩
              rw [hv1e] at hv1 ha1
              have HV1 := hid hv1
              have HA1 := hid ha1
              have HE := hid hv1e
              obtain ⟨r1, r2, hr⟩ := ret_ints v [x.1]
              have HR := hid hr
              obtain ⟨t1, ht1⟩ : ∃ t1, v1.text = t1 := ⟨_, rfl⟩
              have HT1 := hid ht1
              clear hv hx hpart hbits hv1 hv1e ha1 ha hr ht1
              go_wp2_with fail
              refine (st_applyR H 0 rfl HV.out (some ⟨bb, ob + k * 10, none⟩) 1 (c2 - k) [x] (fun wx T h => HP.out wx h.fr) v1 HE.out HR.out).mono ?_
              clear H
              rintro e w110 ⟨rfl, H⟩
              try simp only [List.nil_append, List.cons_append, List.set_cons_zero, List.set_cons_succ] at H
              go_wp2_with fail
              refine (st_applyR H 2 rfl HV.out (some ⟨bb, ob + k * 10, none⟩) 1 (c2 - k) [x] (fun wx T h => HP.out wx h.fr) v1 HE.out HR.out).mono ?_
              clear H
              rintro e w111 ⟨rfl, H⟩
              try simp only [List.nil_append, List.cons_append, List.set_cons_zero, List.set_cons_succ] at H
              go_wp2_with fail
              refine (st_text H 0 rfl HV1.out HT1.out).mono ?_
              clear H
              rintro e w112 ⟨rfl, H⟩
              try simp only [List.nil_append, List.cons_append, List.set_cons_zero, List.set_cons_succ] at H
              go_wp2_with fail
              refine (st_text H 2 rfl HV1.out HT1.out).mono ?_
              clear H
              rintro e w113 ⟨rfl, H⟩
              try simp only [List.nil_append, List.cons_append, List.set_cons_zero, List.set_cons_succ] at H
              go_wp2_with fail
              exact ⟨⟨k + 1, v1, by omega, by go_num, HV1.out, HA1.out, H⟩, by simp only [intOf]; omega⟩
            · have hk3 : ¬ (k : Int) < n2 := by omega
              have HVw := hid hv
              clear hv ha hlt hk
              go_wp2_with fail
              refine (st_sview H 0 rfl HVw.out).mono ?_
              clear H
              rintro e w114 ⟨va2, vl2, rfl, hv1, hv2, H⟩
              try simp only [List.nil_append, List.cons_append, List.set_cons_zero, List.set_cons_succ] at H
              have HVc := hid (show VOk v vl2 from ⟨HVw.out, hv1, hv2⟩)
              clear hv1 hv2
              go_wp2_with fail
              refine (st_sview H 2 rfl HVw.out).mono ?_
              clear H
              rintro e w115 ⟨ua2, ul2, rfl, hv1, hv2, H⟩
              try simp only [List.nil_append, List.cons_append, List.set_cons_zero, List.set_cons_succ] at H
              have HVd := hid (show VOk v ul2 from ⟨HVw.out, hv1, hv2⟩)
              clear hv1 hv2
              have HS := hid (vsame_walk _ v.res v.res va2 ua2 vl2.length ul2.length vl2.length ul2.length vl2 ul2 (H.vok 3 rfl HVc.out) (H.vok 4 rfl HVd.out))
              have HH := hid H
              clear H
              go_wp2_with fail
              refine HS.out.mono ?_
              rintro e w9 ⟨⟨z, rfl, hz⟩, hF9⟩
              obtain rfl : z = true := hz.2 (by simp [HVc.out.eq, HVd.out.eq])
              have HF9 := hid hF9
              clear hz hF9
              go_wp2_with (go_at_call 10; refine (fixed17 _).mono ?_; rintro e w2 ⟨rfl, hF2⟩)
              go_ret
              exact ⟨rfl, HH.out.fr.trans (HF9.out.trans hF2)⟩
end Go.Proofs.Ytmgnekjhlfghaaa
