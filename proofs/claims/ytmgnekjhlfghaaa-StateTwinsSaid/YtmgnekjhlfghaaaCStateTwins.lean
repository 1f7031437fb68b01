/-
  StateTwins: the walk.
-/
import Derived.Test.YtmgnekjhlfghaaaM22
namespace Go.Proofs.Ytmgnekjhlfghaaa
open Go.RowKit
set_option linter.unusedVariables false
set_option linter.unusedSimpArgs false

/-- The change that is made last. -/
def lastC : CV := ⟨1, 1099511627776, 0, 0, 0, 0, 0, 0, ⟨#[]⟩, []⟩
def lastL : List (CV × TS) := [(lastC, ⟨none, 0⟩)]
def lastO : Obj := .cells (cL.cells lastL).toArray 41
theorem last_in {W : Base} {R : List Thing} {cb : Nat} (j : Nat) (hj : R[j]? = some (BlkT cb lastO)) (wx : World) (T : List Thing) (H : St W wx (R ++ T)) : ChIn wx (some ⟨cb, 0, none⟩) 1 1 lastL := by
  refine ⟨cL.in_blk (H.blk j (get_l hj)) (by decide), rfl, fun x hx => ?_⟩
  simp only [lastL, List.mem_cons, List.not_mem_nil, or_false] at hx
  subst hx
  exact ⟨nil_texts' _ _ (by decide), by decide, by decide⟩

set_option maxHeartbeats 4000000 in
set_option maxRecDepth 100000 in
theorem stateTwins_walk (w : World) (n : Int) (h1 : -9223372036854775808 ≤ n) (h2 : n ≤ 9223372036854775807) (a : Option Addr) (nl cap : Nat) (l : List (CV × TS)) (hC0 : ChArg w a nl cap l) :
    Calls Try.prog 4 #[.int .i64 n, .slice a nl cap] w fun e w' => e = .returned (.bool true) ∧ Fr [] w w' := by
  have hC := hC0.ch
  have hle := hC0.le
  have hmx := hC.row.max
  clear hC0 h1 h2
  by_cases hn : n < 1 ∨ 8 < n
  · have HN := hid (fun w => state_new_bad w n hn)
    have h1 : decide (n < 1) = true ∨ decide (n < 1) = false ∧ decide (8 < n) = true := by
      rcases hn with h | h
      · exact .inl (decide_eq_true h)
      · by_cases h2 : n < 1
        · exact .inl (decide_eq_true h2)
        · exact .inr ⟨decide_eq_false h2, decide_eq_true h⟩
    clear hn hC hle hmx
    rcases h1 with h1 | ⟨h1, h2⟩
    · go_enter Try.func4, Try.ntmps4
      go_wp2_with (first | (go_at_call 9; refine (HN.out _).mono ?_; rintro e w1 ⟨rfl, rfl⟩) | (go_at_call 10; refine (fixed17 _).mono ?_; rintro e w2 ⟨rfl, hF2⟩))
      go_ret
      exact ⟨rfl, hF2⟩
    · go_enter Try.func4, Try.ntmps4
      go_wp2_with (first | (go_at_call 9; refine (HN.out _).mono ?_; rintro e w1 ⟨rfl, rfl⟩) | (go_at_call 10; refine (fixed17 _).mono ?_; rintro e w2 ⟨rfl, hF2⟩))
      go_ret
      exact ⟨rfl, hF2⟩
  have hlen := hid hC.len
  have HC := hid hC
  have HLE := hid hle
  have H := St.refl w
  clear hC hle
  go_enter Try.func4, Try.ntmps4
  go_wp2_with fail
  refine (st_snew H n (by omega) (by omega)).mono ?_
  clear H
  rintro e w101 ⟨S, rfl, H⟩
  try simp only [List.nil_append, List.cons_append, List.set_cons_zero, List.set_cons_succ] at H
  go_wp2_with fail
  have hw0 : (SV.new n).wf := new_wf (by omega) (by omega)
  have HI := hid (And.intro H hw0)
  clear H hw0 hn
  go_loopw [7] (fun iv wr => ∃ (k : Nat) (v : SV), k ≤ nl ∧ iv = .int .i64 k ∧ v.wf ∧ St (.of w) wr [SkT S v]) (fun iv _ => nl - (intOf iv).toNat)
  case atStart => exact ⟨0, _, Nat.zero_le _, rfl, HI.out.2, HI.out.1⟩
  case round =>
    clear HI
    obtain ⟨k, v, hk, rfl, hv, H⟩ := hrel
    have HV := hid hv
    by_cases hlt : k < nl
    · obtain ⟨bb, ob, rfl⟩ := HC.out.row.sm (by omega)
      obtain ⟨x, hx⟩ : ∃ x, l[k]? = some x := ⟨_, List.getElem?_eq_getElem (by rw [hlen.out]; exact hlt)⟩
      have hpart := fun (wx : World) (hF : Fr [] w wx) => (HC.out.fr0 hF).part k 1 (by omega)
      rw [part_one hx] at hpart
      have hbits := (HC.out.one x (List.mem_of_getElem? hx)).2
      have hv1 : (v.put [x.1]).wf := put_wf hv (fun c hc => by rw [List.mem_singleton.1 hc]; exact hbits)
      have HV1 := hid hv1
      have HP := hid hpart
      have hkc : k < cap := by have := HLE.out; omega
      have hkw : IntKind.i64.wrap ((k : Int) + 1) = (k : Int) + 1 := IntWalk.i64_in _ (by omega)
      obtain ⟨v1, hv1e⟩ : ∃ v1, v.put [x.1] = v1 := ⟨_, rfl⟩
      rw [hv1e] at HV1
      have HE := hid hv1e
      obtain ⟨v2, hv2e⟩ : ∃ v2, v1.put [lastC] = v2 := ⟨_, rfl⟩
      have HE2 := hid hv2e
      clear hv hx hpart hbits hv1 hv1e hv2e
      go_wp2_with fail
      refine (st_sclone H 0 rfl HV.out).mono ?_
      clear H
      rintro e w102 ⟨C, rfl, H⟩
      try simp only [List.nil_append, List.cons_append, List.set_cons_zero, List.set_cons_succ] at H
      go_wp2_with fail
      refine (st_sbytes H 1 rfl HV.out).mono ?_
      clear H
      rintro e w103 ⟨rfl, H⟩
      try simp only [List.nil_append, List.cons_append, List.set_cons_zero, List.set_cons_succ] at H
      go_wp2_with fail
      refine (st_applyV H 0 rfl HV.out (some ⟨bb, ob + k * 10, none⟩) 1 (cap - k) [x] (fun wx T h => HP.out wx h.fr) v1 HE.out).mono ?_
      clear H
      rintro e w104 ⟨r1, r2, rfl, H⟩
      try simp only [List.nil_append, List.cons_append, List.set_cons_zero, List.set_cons_succ] at H
      go_wp2_with fail
      refine (st_sbytes H 0 rfl HV1.out).mono ?_
      clear H
      rintro e w105 ⟨rfl, H⟩
      try simp only [List.nil_append, List.cons_append, List.set_cons_zero, List.set_cons_succ] at H
      go_wp2_with fail
      refine (st_sbytes H 1 rfl HV.out).mono ?_
      clear H
      rintro e w106 ⟨rfl, H⟩
      try simp only [List.nil_append, List.cons_append, List.set_cons_zero, List.set_cons_succ] at H
      go_wp2_with fail
      refine (st_applyV H 1 rfl HV.out (some ⟨bb, ob + k * 10, none⟩) 1 (cap - k) [x] (fun wx T h => HP.out wx h.fr) v1 HE.out).mono ?_
      clear H
      rintro e w107 ⟨r3, r4, rfl, H⟩
      try simp only [List.nil_append, List.cons_append, List.set_cons_zero, List.set_cons_succ] at H
      go_wp2_with fail
      refine (st_sbytes H 1 rfl HV1.out).mono ?_
      clear H
      rintro e w108 ⟨rfl, H⟩
      try simp only [List.nil_append, List.cons_append, List.set_cons_zero, List.set_cons_succ] at H
      go_wp2_with fail
      refine (st_sbytes H 0 rfl HV1.out).mono ?_
      clear H
      rintro e w109 ⟨rfl, H⟩
      try simp only [List.nil_append, List.cons_append, List.set_cons_zero, List.set_cons_succ] at H
      go_wp2_with fail
      replace H := H.alloc lastO
      refine (st_applyV H 1 rfl HV1.out (some ⟨_, 0, none⟩) 1 1 lastL (last_in 2 rfl) v2 HE2.out).mono ?_
      clear H
      rintro e w110 ⟨r5, r6, rfl, H⟩
      try simp only [List.nil_append, List.cons_append, List.set_cons_zero, List.set_cons_succ] at H
      go_wp2_with fail
      refine (st_sbytes H 0 rfl HV1.out).mono ?_
      clear H
      rintro e w111 ⟨rfl, H⟩
      try simp only [List.nil_append, List.cons_append, List.set_cons_zero, List.set_cons_succ] at H
      go_wp2_with fail
      exact ⟨⟨k + 1, v1, by omega, rfl, HV1.out, H.drop (R := [SkT S v1]) (T := [_, _])⟩, by simp only [intOf]; omega⟩
    · have hk1 : ¬ (k : Int) < nl := by omega
      have HH := hid H
      clear H hv hlt hk
      go_wp2_with (go_at_call 10; refine (fixed17 _).mono ?_; rintro e w2 ⟨rfl, hF2⟩)
      go_ret
      exact ⟨rfl, HH.out.fr.trans hF2⟩
end Go.Proofs.Ytmgnekjhlfghaaa
