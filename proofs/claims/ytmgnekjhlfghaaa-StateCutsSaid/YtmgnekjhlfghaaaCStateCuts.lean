/-
  StateCuts: the walk.
-/
import Derived.Test.YtmgnekjhlfghaaaM24
namespace Go.Proofs.Ytmgnekjhlfghaaa
open Go.RowKit
set_option linter.unusedVariables false
set_option linter.unusedSimpArgs false

theorem w64_bd (n : Int) : -9223372036854775808 ≤ RowKit.wrap64 n ∧ RowKit.wrap64 n ≤ 9223372036854775807 := by unfold RowKit.wrap64; omega
theorem new_bytes (n : Int) : (SV.new n).bytes = [0, 0] := by
  show bl (nf 0 ++ nf 0) ++ [] = [0, 0]
  kernel_rfl
theorem go_mid {v u x : SV} {l : List CV} {i k : Nat} (hik : i ≤ k) (hu : v.go l 0 = .ok u) (hx : v.go (l.take i) 0 = .ok x) : ∃ y, x.go ((l.drop i).take (k - i)) 0 = .ok y ∧ v.go (l.take k) 0 = .ok y := by
  have e : l.take k = l.take i ++ (l.drop i).take (k - i) := by
    have : k = i + (k - i) := by omega
    conv => lhs; rw [this, List.take_add]
  have h1 : v.go (l.take k ++ l.drop k) 0 = .ok u := by rw [List.take_append_drop]; exact hu
  obtain ⟨y, h2, _⟩ := go_split h1
  have h3 := h2
  rw [e, go_app hx] at h3
  exact ⟨y, go_any (v := x) 0 h3, h2⟩
theorem bytes_size {v : SV} (hv : v.wf) : (ByteArray.mk v.bytes.toArray).size ≤ 17000 := by
  have := bytes_le hv
  show v.bytes.toArray.size ≤ 17000
  simpa using this
theorem places_le {v : SV} (hv : v.wf) {l : List (PV × TS)} (h : l.map (·.1) = v.places) : l.length ≤ 8 ∧ ∀ x, x ∈ l → x.1.log.length ≤ 32 := by
  have h1 := congrArg List.length h
  unfold SV.places at h1
  simp at h1
  refine ⟨by have := hv.q.n; omega, fun x hx => ?_⟩
  have h2 : x.1 ∈ v.places := by rw [← h]; exact List.mem_map_of_mem hx
  unfold SV.places at h2
  obtain ⟨k, hk, e⟩ := List.mem_map.1 h2
  rw [← e]
  have hk : k < v.logs.length := by rw [hv.nl]; simpa using hk
  exact (hv.lg (v.logs.getD k []) (by rw [List.getD, List.getElem?_eq_getElem hk]; exact List.getElem_mem hk)).1
set_option maxHeartbeats 4000000 in
set_option maxRecDepth 100000 in
theorem stateCuts_walk (w : World) (n : Int) (h1 : -9223372036854775808 ≤ n) (h2 : n ≤ 9223372036854775807) (a : Option Addr) (nl cap : Nat) (l : List (CV × TS)) (hC0 : ChArg w a nl cap l) (cut : Int) (h3 : -9223372036854775808 ≤ cut) (h4 : cut ≤ 9223372036854775807) :
    Calls Try.prog 5 #[.int .i64 n, .slice a nl cap, .int .i64 cut] w fun e w' => e = .returned (.bool true) ∧ Fr [] w w' := by
  have hC := hC0.ch
  have hle := hC0.le
  have hmx := hC.row.max
  have hcb := hC0.cap
  clear hC0 h1 h2
  by_cases hn : n < 1 ∨ 8 < n
  · have HN := hid (fun w => state_new_bad w n hn)
    have h1 : decide (n < 1) = true ∨ decide (n < 1) = false ∧ decide (8 < n) = true := by
      rcases hn with h | h
      · exact .inl (decide_eq_true h)
      · by_cases h2 : n < 1
        · exact .inl (decide_eq_true h2)
        · exact .inr ⟨decide_eq_false h2, decide_eq_true h⟩
    clear hn hC hle hmx hcb h3 h4
    rcases h1 with h1 | ⟨h1, h2⟩
    · go_enter Try.func5, Try.ntmps5
      go_wp2_with (first | (go_at_call 9; refine (HN.out _).mono ?_; rintro e w1 ⟨rfl, rfl⟩) | (go_at_call 10; refine (fixed17 _).mono ?_; rintro e w2 ⟨rfl, hF2⟩))
      go_ret
      exact ⟨rfl, hF2⟩
    · go_enter Try.func5, Try.ntmps5
      go_wp2_with (first | (go_at_call 9; refine (HN.out _).mono ?_; rintro e w1 ⟨rfl, rfl⟩) | (go_at_call 10; refine (fixed17 _).mono ?_; rintro e w2 ⟨rfl, hF2⟩))
      go_ret
      exact ⟨rfl, hF2⟩
  have hlen := hid hC.len
  have HC := hid hC
  have HLE := hid (And.intro hle hcb)
  have HCUT := hid (And.intro h3 h4)
  have H := St.refl w
  clear hC hle hcb h3 h4
  go_enter Try.func5, Try.ntmps5
  go_wp2_with fail
  refine (st_snew H n (by omega) (by omega)).mono ?_
  clear H
  rintro e w101 ⟨A, rfl, H⟩
  try simp only [List.nil_append, List.cons_append, List.set_cons_zero, List.set_cons_succ] at H
  go_wp2_with fail
  refine (st_snew H n (by omega) (by omega)).mono ?_
  clear H
  rintro e w102 ⟨B, rfl, H⟩
  try simp only [List.nil_append, List.cons_append, List.set_cons_zero, List.set_cons_succ] at H
  go_wp2_with fail
  have hw0 : (SV.new n).wf := new_wf (by omega) (by omega)
  have HW := hid hw0
  have HI := hid H
  clear hw0 hn H
  rcases hg : (SV.new n).go (l.map (·.1)) 0 with q | u
  · obtain ⟨q1, q2, u, q3, _⟩ := go_err hg
    rw [List.length_map] at q2
    rw [Nat.sub_zero] at q3
    have hqn : q < nl := by rw [← hlen.out]; omega
    obtain ⟨bb, ob, rfl⟩ := HC.out.row.sm (by omega)
    have q4 : (q : Int) < nl := by omega
    have q5 : (0 : Int) ≤ q := by omega
    have q6 : q ≤ cap := by have := HLE.out.1; omega
    have HG := hid hg
    have HQ := hid (And.intro q3 hqn)
    clear hg q1 q2 q3
    refine (st_apply_no HI.out 0 rfl HW.out (some ⟨bb, ob, none⟩) nl cap l (fun wx T h => HC.out.fr0 h.fr) HG.out).mono ?_
    rintro e w3 ⟨rfl, H⟩
    have hb := st_sbytes H 0 rfl HW.out
    rw [new_bytes] at hb
    have HB := hid hb
    clear hb H HI
    go_wp2_with (go_at_call 11; refine HB.out.mono ?_)
    rintro e w4 ⟨rfl, H⟩
    have hup := hid (show ∀ wx, Fr [] w wx → ChIn wx (some ⟨bb, ob, none⟩) q cap (l.take q) from fun wx hF => by
      have := (HC.out.fr0 hF).part 0 q (by omega)
      simpa using this)
    have HA := hid (st_apply_ok H 0 rfl HW.out (some ⟨bb, ob, none⟩) q cap (l.take q) (fun wx T h => hup.out wx h.fr) (by rw [List.map_take]; exact HQ.out.1))
    clear H hqn
    go_wp2_with (go_at_call 12; refine HA.out.mono ?_)
    rintro e w5 ⟨rfl, H⟩
    obtain ⟨r, hr⟩ : ∃ r, l.take q = r := ⟨_, rfl⟩
    have HM := hid (show ChIn w (some ⟨bb, ob, none⟩) q cap r by rw [← hr]; exact hup.out w (Fr.refl _ _))
    have HGR := hid (show (SV.new n).go (r.map (·.1)) 0 = .ok u by rw [← hr, List.map_take]; exact HQ.out.1)
    have HU : u.wf := go_wf (fun c hc => by obtain ⟨y, hy, rfl⟩ := List.mem_map.1 hc; exact (HM.out.one y hy).2) HW.out HGR.out
    have HCM := hid (show q ≤ cap ∧ cap * 104 ≤ 140737488351232 from ⟨q6, HLE.out.2⟩)
    clear HA hup HB HQ HG HC hr q4 q6
    have hmm := HM.out.row.max
    have hML := hid HM.out.len
    have HB0 := hid (And.intro HU H)
    clear H HU
    go_wp2_with fail
    go_loopw [14] (fun iv wr => ∃ (i : Nat) (x : SV), i ≤ q ∧ iv = .int .i64 i ∧ x.wf ∧ Hid ((SV.new n).go ((r.map (·.1)).take i) 0 = .ok x) ∧ St (.of w) wr [SkT A u, SkT B x]) (fun iv _ => q - (intOf iv).toNat)
    case atStart => exact ⟨0, _, Nat.zero_le _, rfl, HW.out, hid rfl, HB0.out.2⟩
    case round =>
      obtain ⟨i, x, hi, rfl, hx, hgx, H⟩ := hrel
      have HX := hid hx
      have HGX := hid hgx.out
      by_cases hlt : i < q
      · obtain ⟨bb, ob, hab⟩ := HM.out.row.sm (by omega)
        first | subst hab | cases hab
        have hpl := hid (place17 (RowKit.wrap64 (cut + i)) 4 wr (w64_bd _).1 (w64_bd _).2 (by decide) (by decide))
        obtain ⟨p, hp⟩ : ∃ p : Nat, RowKit.wrap64 (cut + i) % 4 = p := ⟨(RowKit.wrap64 (cut + i) % 4).toNat, by have := Int.emod_nonneg (RowKit.wrap64 (cut + i)) (show (4 : Int) ≠ 0 by decide); omega⟩
        have hp4 : p < 4 := by have := Int.emod_lt_of_pos (RowKit.wrap64 (cut + i)) (show (0 : Int) < 4 by decide); omega
        have HPL : Hid _ := hid (show Calls Try.prog 14 #[.int .i64 (RowKit.wrap64 (cut + i)), .int .i64 4] wr fun e w' => e = .returned (.int .i64 p) ∧ wr = w' by rw [← hp]; exact hpl.out)
        obtain ⟨k, hk⟩ : ∃ k, k = min q (i + 1 + p) := ⟨_, rfl⟩
        have hk1 : i < k := by omega
        have hk2 : k ≤ q := by omega
        obtain ⟨y, hy1, hy2⟩ := go_mid (k := k) (by omega) HGR.out hgx.out
        have hin : ∀ wx, Fr [] w wx → ChIn wx (some ⟨bb, ob + i * 10, none⟩) (k - i) (cap - i) ((r.drop i).take (k - i)) := fun wx hF => by
          have h1 := HM.out.fr0 hF
          exact h1.part i (k - i) (by omega)
        have hyw : y.wf := go_wf (fun c' h => by
          obtain ⟨y', hy', rfl⟩ := List.mem_map.1 (show c' ∈ ((r.drop i).take (k - i)).map (·.1) by rw [List.map_take, List.map_drop]; exact h)
          exact (HM.out.one y' (List.mem_of_mem_drop (List.mem_of_mem_take hy'))).2) hx hy1
        have HY := hid hyw
        have HY1 := hid hy1
        have HY2 := hid hy2
        have HIN := hid hin
        have HK := hid (And.intro hk1 hk2)
        have hsz := bytes_le hyw
        have HL := hid (And.intro hlt H)
        have hmb := HCM.out
        have hw1 : IntKind.i64.wrap ((i : Int) + 1) = (i : Int) + 1 := IntWalk.i64_in _ (by omega)
        have hw2 : IntKind.i64.wrap ((i : Int) + 1 + p) = (i : Int) + 1 + p := IntWalk.i64_in _ (by omega)
        have hk0 : (0 : Int) ≤ i := by omega
        have hi1 : (i : Int) < q := by omega
        have hi2 : (i : Int) < k := by omega
        have hkc : k ≤ cap := by omega
        have hmin : min (q : Int) ((i : Int) + 1 + p) = (k : Int) := by omega
        have HMB := hid hmb
        clear hpl hp hk hy1 hy2 hin hyw hlt hgx hx hi hk1 hk2 H hmb
        have HA := hid (st_apply_ok HL.out.2 1 rfl HX.out (some ⟨bb, ob + i * 10, none⟩) (k - i) (cap - i) ((r.drop i).take (k - i)) (fun wx T h => HIN.out wx h.fr) (by rw [List.map_take, List.map_drop]; exact HY1.out))
        go_wp2_with (first
          | (go_at_call 14; refine HPL.out.mono ?_; rintro e w5 ⟨rfl, rfl⟩))
        clear hmin
        refine HA.out.mono ?_
        rintro e w6 ⟨rfl, H⟩
        have HB := hid (st_sbytes H 1 rfl HY.out)
        clear H HA
        go_wp2_with (go_at_call 11; refine HB.out.mono ?_; rintro e w7 ⟨rfl, H⟩; have H := hid H)
        exact ⟨⟨k, y, HK.out.2, rfl, HY.out, hid HY2.out, H.out⟩, by have := HK.out; simp only [intOf]; omega⟩
      · have hie : i = q := by omega
        have hxu : x = u := by
          have h1 := hgx.out
          rw [hie, List.take_of_length_le (by rw [List.length_map, hML.out]; exact Nat.le_refl _), HGR.out] at h1
          injection h1 with h1
          exact h1.symm
        subst hxu
        have hi1 : ¬ (i : Int) < q := by omega
        have HA1 := hid (st_sbytes H 0 rfl HX.out)
        clear H hx hgx hi hlt hie
        go_wp2_with fail
        refine HA1.out.mono ?_
        rintro e w5 ⟨rfl, H⟩
        have HA2 := hid (st_sbytes H 1 rfl HX.out)
        clear H HA1
        go_wp2_with fail
        refine HA2.out.mono ?_
        rintro e w6 ⟨rfl, H⟩
        have HA3 := hid (st_sview H 0 rfl HX.out)
        clear H HA2
        go_wp2_with fail
        refine HA3.out.mono ?_
        rintro e w7 ⟨va, vl, rfl, hv1, hv2, H⟩
        have HA4 := hid (st_sview H 1 rfl HX.out)
        have HV1 := hid (And.intro hv1 hv2)
        clear H HA3 hv1 hv2
        go_wp2_with fail
        refine HA4.out.mono ?_
        rintro e w8 ⟨vb, vm, rfl, hv1, hv2, H⟩
        have HV2 := hid (And.intro hv1 hv2)
        have hp1 := places_le HX.out HV1.out.1
        have hp2 := places_le HX.out HV2.out.1
        have HS := hid (vsame_walk w8 x.res x.res va vb vl.length vm.length vl.length vm.length vl vm (H.plIn 2 rfl HV1.out.2 hp1.1 hp1.2) (H.plIn 3 rfl HV2.out.2 hp2.1 hp2.2))
        have HH := hid H
        clear H HA4 hv1 hv2 hp1 hp2
        go_wp2_with fail
        refine HS.out.mono ?_
        rintro e w9 ⟨⟨z, rfl, hz⟩, hF9⟩
        obtain rfl : z = true := hz.2 (by simp [HV1.out.1, HV2.out.1])
        clear hz
        have HF9 := hid hF9
        clear hF9
        go_wp2_with (go_at_call 10; refine (fixed17 _).mono ?_; rintro e w10 ⟨rfl, hF10⟩)
        go_ret
        exact ⟨rfl, (HH.out.fr.trans HF9.out).trans hF10⟩
  · have HU : u.wf := go_wf (fun c hc => by obtain ⟨y, hy, rfl⟩ := List.mem_map.1 hc; exact (HC.out.one y hy).2) HW.out hg
    have HG := hid hg
    refine (st_apply_ok HI.out 0 rfl HW.out a nl cap l (fun wx T h => HC.out.fr0 h.fr) HG.out).mono ?_
    rintro e w5 ⟨rfl, H⟩
    obtain ⟨r, hr⟩ : ∃ r, l = r := ⟨_, rfl⟩
    have HM := hid (show ChIn w a nl cap r by rw [← hr]; exact HC.out)
    have HGR := hid (show (SV.new n).go (r.map (·.1)) 0 = .ok u by rw [← hr]; exact hg)
    have HCM := hid (show nl ≤ cap ∧ cap * 104 ≤ 140737488351232 from HLE.out)
    clear hg HG HC hlen
    clear hr
    have hmm := HM.out.row.max
    have hML := hid HM.out.len
    have HB0 := hid (And.intro HU H)
    clear H HU
    go_wp2_with fail
    go_loopw [14] (fun iv wr => ∃ (i : Nat) (x : SV), i ≤ nl ∧ iv = .int .i64 i ∧ x.wf ∧ Hid ((SV.new n).go ((r.map (·.1)).take i) 0 = .ok x) ∧ St (.of w) wr [SkT A u, SkT B x]) (fun iv _ => nl - (intOf iv).toNat)
    case atStart => exact ⟨0, _, Nat.zero_le _, rfl, HW.out, hid rfl, HB0.out.2⟩
    case round =>
      obtain ⟨i, x, hi, rfl, hx, hgx, H⟩ := hrel
      have HX := hid hx
      have HGX := hid hgx.out
      by_cases hlt : i < nl
      · obtain ⟨bb, ob, hab⟩ := HM.out.row.sm (by omega)
        first | subst hab | cases hab
        have hpl := hid (place17 (RowKit.wrap64 (cut + i)) 4 wr (w64_bd _).1 (w64_bd _).2 (by decide) (by decide))
        obtain ⟨p, hp⟩ : ∃ p : Nat, RowKit.wrap64 (cut + i) % 4 = p := ⟨(RowKit.wrap64 (cut + i) % 4).toNat, by have := Int.emod_nonneg (RowKit.wrap64 (cut + i)) (show (4 : Int) ≠ 0 by decide); omega⟩
        have hp4 : p < 4 := by have := Int.emod_lt_of_pos (RowKit.wrap64 (cut + i)) (show (0 : Int) < 4 by decide); omega
        have HPL : Hid _ := hid (show Calls Try.prog 14 #[.int .i64 (RowKit.wrap64 (cut + i)), .int .i64 4] wr fun e w' => e = .returned (.int .i64 p) ∧ wr = w' by rw [← hp]; exact hpl.out)
        obtain ⟨k, hk⟩ : ∃ k, k = min nl (i + 1 + p) := ⟨_, rfl⟩
        have hk1 : i < k := by omega
        have hk2 : k ≤ nl := by omega
        obtain ⟨y, hy1, hy2⟩ := go_mid (k := k) (by omega) HGR.out hgx.out
        have hin : ∀ wx, Fr [] w wx → ChIn wx (some ⟨bb, ob + i * 10, none⟩) (k - i) (cap - i) ((r.drop i).take (k - i)) := fun wx hF => by
          have h1 := HM.out.fr0 hF
          exact h1.part i (k - i) (by omega)
        have hyw : y.wf := go_wf (fun c' h => by
          obtain ⟨y', hy', rfl⟩ := List.mem_map.1 (show c' ∈ ((r.drop i).take (k - i)).map (·.1) by rw [List.map_take, List.map_drop]; exact h)
          exact (HM.out.one y' (List.mem_of_mem_drop (List.mem_of_mem_take hy'))).2) hx hy1
        have HY := hid hyw
        have HY1 := hid hy1
        have HY2 := hid hy2
        have HIN := hid hin
        have HK := hid (And.intro hk1 hk2)
        have hsz := bytes_le hyw
        have HL := hid (And.intro hlt H)
        have hmb := HCM.out
        have hw1 : IntKind.i64.wrap ((i : Int) + 1) = (i : Int) + 1 := IntWalk.i64_in _ (by omega)
        have hw2 : IntKind.i64.wrap ((i : Int) + 1 + p) = (i : Int) + 1 + p := IntWalk.i64_in _ (by omega)
        have hk0 : (0 : Int) ≤ i := by omega
        have hi1 : (i : Int) < nl := by omega
        have hi2 : (i : Int) < k := by omega
        have hkc : k ≤ cap := by omega
        have hmin : min (nl : Int) ((i : Int) + 1 + p) = (k : Int) := by omega
        have HMB := hid hmb
        clear hpl hp hk hy1 hy2 hin hyw hlt hgx hx hi hk1 hk2 H hmb
        have HA := hid (st_apply_ok HL.out.2 1 rfl HX.out (some ⟨bb, ob + i * 10, none⟩) (k - i) (cap - i) ((r.drop i).take (k - i)) (fun wx T h => HIN.out wx h.fr) (by rw [List.map_take, List.map_drop]; exact HY1.out))
        go_wp2_with (first
          | (go_at_call 14; refine HPL.out.mono ?_; rintro e w5 ⟨rfl, rfl⟩))
        clear hmin
        refine HA.out.mono ?_
        rintro e w6 ⟨rfl, H⟩
        have HB := hid (st_sbytes H 1 rfl HY.out)
        clear H HA
        go_wp2_with (go_at_call 11; refine HB.out.mono ?_; rintro e w7 ⟨rfl, H⟩; have H := hid H)
        exact ⟨⟨k, y, HK.out.2, rfl, HY.out, hid HY2.out, H.out⟩, by have := HK.out; simp only [intOf]; omega⟩
      · have hie : i = nl := by omega
        have hxu : x = u := by
          have h1 := hgx.out
          rw [hie, List.take_of_length_le (by rw [List.length_map, hML.out]; exact Nat.le_refl _), HGR.out] at h1
          injection h1 with h1
          exact h1.symm
        subst hxu
        have hi1 : ¬ (i : Int) < nl := by omega
        have HA1 := hid (st_sbytes H 0 rfl HX.out)
        clear H hx hgx hi hlt hie
        go_wp2_with fail
        refine HA1.out.mono ?_
        rintro e w5 ⟨rfl, H⟩
        have HA2 := hid (st_sbytes H 1 rfl HX.out)
        clear H HA1
        go_wp2_with fail
        refine HA2.out.mono ?_
        rintro e w6 ⟨rfl, H⟩
        have HA3 := hid (st_sview H 0 rfl HX.out)
        clear H HA2
        go_wp2_with fail
        refine HA3.out.mono ?_
        rintro e w7 ⟨va, vl, rfl, hv1, hv2, H⟩
        have HA4 := hid (st_sview H 1 rfl HX.out)
        have HV1 := hid (And.intro hv1 hv2)
        clear H HA3 hv1 hv2
        go_wp2_with fail
        refine HA4.out.mono ?_
        rintro e w8 ⟨vb, vm, rfl, hv1, hv2, H⟩
        have HV2 := hid (And.intro hv1 hv2)
        have hp1 := places_le HX.out HV1.out.1
        have hp2 := places_le HX.out HV2.out.1
        have HS := hid (vsame_walk w8 x.res x.res va vb vl.length vm.length vl.length vm.length vl vm (H.plIn 2 rfl HV1.out.2 hp1.1 hp1.2) (H.plIn 3 rfl HV2.out.2 hp2.1 hp2.2))
        have HH := hid H
        clear H HA4 hv1 hv2 hp1 hp2
        go_wp2_with fail
        refine HS.out.mono ?_
        rintro e w9 ⟨⟨z, rfl, hz⟩, hF9⟩
        obtain rfl : z = true := hz.2 (by simp [HV1.out.1, HV2.out.1])
        clear hz
        have HF9 := hid hF9
        clear hF9
        go_wp2_with (go_at_call 10; refine (fixed17 _).mono ?_; rintro e w10 ⟨rfl, hF10⟩)
        go_ret
        exact ⟨rfl, (HH.out.fr.trans HF9.out).trans hF10⟩
end Go.Proofs.Ytmgnekjhlfghaaa
