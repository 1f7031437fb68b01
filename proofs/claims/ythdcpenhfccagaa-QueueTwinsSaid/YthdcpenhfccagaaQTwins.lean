/-
  The walk of QueueTwins.
-/
import Derived.Test.YthdcpenhfccagaaQ9
namespace Go.Proofs.Ythdcpenhfccagaa
open Go.RowKit
set_option linter.unusedVariables false
set_option linter.unusedSimpArgs false

theorem pick02 {W : Base} {w : World} {a b c : Thing} (h : St W w [a, b, c]) : St W w [a, c] := h.pick [0, 2] (by decide) rfl (by intro k i hk; match k with | 0 => cases hk; rfl | 1 => cases hk; rfl | k + 2 => simp at hk)

/-- What the loop keeps. -/
structure TwI (w wr : World) (Q C : Nat) (f : Int) (k : Nat) (q c : QS) : Prop where
  st : St (.of w) wr [QkT Q q, QkT C c]
  wq : q.wf
  wc : c.wf
  eq : 0 ≤ f → f < k → q = c

set_option maxHeartbeats 3200000 in
set_option maxRecDepth 100000 in
theorem qtwins_any (w : World) (n : Int) (s : Option Addr) (ns cs : Nat) (l : Nat → Op11) (hO : Ops11 w s ns cs l) (f : Int) (f1 : -9223372036854775808 ≤ f) (f2 : f ≤ 9223372036854775807) :
    Calls Try.prog 5 #[.int .i64 n, .slice s ns cs, .int .i64 f] w fun e w' => e = .returned (.bool true) ∧ Fr [] w w' := by
  have hms := hO.2.1
  have hls := hO.1
  by_cases hn : n < 1 ∨ 8 < n
  · have HN := hid (queue_new_bad w n hn)
    clear hn hO
    go_enter Try.func5, Try.ntmps5
    go_wp2_with fail
    refine (HN.out).mono ?_
    rintro e w101 ⟨rfl, rfl⟩
    go_wp2_with fail
    refine (fixed11 _).mono ?_
    rintro e w102 ⟨rfl, hF2⟩
    go_wp2_with fail
    go_ret
    exact ⟨rfl, hF2⟩
  have H := St.refl w
  have HO := hid hO
  clear hO
  go_enter Try.func5, Try.ntmps5
  go_wp2_with fail
  refine (st_qnew H n (by omega) (by omega)).mono ?_
  clear H
  rintro e w103 ⟨Q, rfl, H⟩
  try simp only [List.nil_append, List.cons_append, List.set_cons_zero, List.set_cons_succ] at H
  go_wp2_with fail
  refine (st_qclone H 0 rfl (by simp)).mono ?_
  rintro e w2 ⟨C, rfl, hF, FC, hC, hbC⟩
  have hw0 : (⟨n, []⟩ : QS).wf := qnew_wf (by omega) (by omega)
  have hI : TwI w w2 Q C f 0 ⟨n, []⟩ ⟨n, []⟩ := ⟨H.new hF (A := Qk1 C ⟨n, []⟩) inferInstance hC hbC, hw0, hw0, fun _ _ => rfl⟩
  have HI := hid hI
  clear H hF hC hbC hw0 hI hn
  go_wp2_with fail
  go_loopw [9, 10] (fun cv i wr => ∃ (k C : Nat) (q c : QS), k ≤ ns ∧ i = .int .i64 k ∧ cv = .pointer (some ⟨C, 0, none⟩) ∧ TwI w wr Q C f k q c) (fun _ i _ => ns - (intOf i).toNat)
  case atStart => exact ⟨0, C, _, _, Nat.zero_le _, rfl, rfl, HI.out⟩
  case round =>
    clear HI
    obtain ⟨k, C, q, c, hk, rfl, rfl, hI⟩ := hrel
    have HV := hid hI
    clear hI
    by_cases hlt : k < ns
    · obtain ⟨bb, ob, rfl⟩ := HO.out.2.2.2.2.1 (by omega)
      obtain ⟨z, q', hz⟩ : ∃ z q', (l k).run q = (z, q') := ⟨_, _, rfl⟩
      have HZ := hid hz
      have HWQ' := hid (run_wf HV.out.wq hz)
      clear hz
      by_cases hkf : (k : Int) = f
      · subst hkf
        have hb1 : ((k : Int) == k) = true := by rw [beq_iff_eq]
        have H := HV.out.st
        go_wp2_with fail
        refine (st_qcloneT H 0 rfl HV.out.wq.n).mono ?_
        clear H
        rintro e w104 ⟨C', rfl, H⟩
        try simp only [List.nil_append, List.cons_append, List.set_cons_zero, List.set_cons_succ] at H
        go_wp2_with fail
        replace H := pick02 H
        have hwc := (HV.out.wq).n
        refine (st_rowsT H 1 rfl hwc).mono ?_
        clear H
        rintro e w105 ⟨a4, rfl, H⟩
        try simp only [List.nil_append, List.cons_append, List.set_cons_zero, List.set_cons_succ] at H
        have HWC := hid hwc
        clear hwc
        obtain ⟨d0, d1, d2, d3, d4, d5, d6, d7⟩ := HO.out.2.2.2.2.2 bb ob rfl k hlt _ H.fr
        go_wp2_with fail
        clear d0 d1 d2 d3 d4 d5 d6 d7
        refine (st_doesZ H 0 rfl HV.out.wq HZ.out).mono ?_
        clear H
        rintro e w106 ⟨rfl, H⟩
        try simp only [List.nil_append, List.cons_append, List.set_cons_zero, List.set_cons_succ] at H
        go_wp2_with fail
        refine (st_rowsT H 1 rfl HWC.out).mono ?_
        clear H
        rintro e w107 ⟨a5, rfl, H⟩
        try simp only [List.nil_append, List.cons_append, List.set_cons_zero, List.set_cons_succ] at H
        go_wp2_with fail
        refine (st_qsame H (H.rw_ 3 rfl) (H.rw_ 2 rfl) rfl).mono ?_
        clear H
        rintro e w108 ⟨rfl, H⟩
        try simp only [List.nil_append, List.cons_append, List.set_cons_zero, List.set_cons_succ] at H
        go_wp2_with fail
        have hwq := HWQ'.out.n
        refine (st_rowsT H 0 rfl hwq).mono ?_
        clear H
        rintro e w109 ⟨a6, rfl, H⟩
        try simp only [List.nil_append, List.cons_append, List.set_cons_zero, List.set_cons_succ] at H
        have HWN := hid hwq
        clear hwq
        obtain ⟨d0, d1, d2, d3, d4, d5, d6, d7⟩ := HO.out.2.2.2.2.2 bb ob rfl k hlt _ H.fr
        go_wp2_with fail
        clear d0 d1 d2 d3 d4 d5 d6 d7
        refine (st_doesZ H 1 rfl HV.out.wq HZ.out).mono ?_
        clear H
        rintro e w110 ⟨rfl, H⟩
        try simp only [List.nil_append, List.cons_append, List.set_cons_zero, List.set_cons_succ] at H
        go_wp2_with fail
        refine (st_rowsT H 1 rfl HWN.out).mono ?_
        clear H
        rintro e w111 ⟨a7, rfl, H⟩
        try simp only [List.nil_append, List.cons_append, List.set_cons_zero, List.set_cons_succ] at H
        go_wp2_with fail
        refine (st_qsame H (H.rw_ 5 rfl) (H.rw_ 4 rfl) rfl).mono ?_
        clear H
        rintro e w112 ⟨rfl, H⟩
        try simp only [List.nil_append, List.cons_append, List.set_cons_zero, List.set_cons_succ] at H
        go_wp2_with fail
        refine (st_rowsT H 0 rfl HWN.out).mono ?_
        clear H
        rintro e w113 ⟨a8, rfl, H⟩
        try simp only [List.nil_append, List.cons_append, List.set_cons_zero, List.set_cons_succ] at H
        go_wp2_with fail
        refine (st_qsame H (H.rw_ 6 rfl) (H.rw_ 4 rfl) rfl).mono ?_
        clear H
        rintro e w114 ⟨rfl, H⟩
        try simp only [List.nil_append, List.cons_append, List.set_cons_zero, List.set_cons_succ] at H
        go_wp2_with fail
        go_roundw
        case rel => exact ⟨k + 1, C', q', q', by omega, by go_num, rfl, H.take 2, HWQ'.out, HWQ'.out, fun _ _ => rfl⟩
        case measure => simp [intOf]; omega
      have hb1 : ((k : Int) == f) = false := by rw [beq_eq_false_iff_ne]; exact hkf
      have HKF := hid hkf
      clear hkf
      by_cases hkg : 0 ≤ f ∧ f < k
      · obtain rfl : q = c := HV.out.eq hkg.1 hkg.2
        have H := HV.out.st
        obtain ⟨hk1, hk2⟩ := hkg
        go_wp2_with fail
        have hwc := (HV.out.wq).n
        refine (st_rowsT H 1 rfl hwc).mono ?_
        clear H
        rintro e w115 ⟨a4, rfl, H⟩
        try simp only [List.nil_append, List.cons_append, List.set_cons_zero, List.set_cons_succ] at H
        have HWC := hid hwc
        clear hwc
        obtain ⟨d0, d1, d2, d3, d4, d5, d6, d7⟩ := HO.out.2.2.2.2.2 bb ob rfl k hlt _ H.fr
        go_wp2_with fail
        clear d0 d1 d2 d3 d4 d5 d6 d7
        refine (st_doesZ H 0 rfl HV.out.wq HZ.out).mono ?_
        clear H
        rintro e w116 ⟨rfl, H⟩
        try simp only [List.nil_append, List.cons_append, List.set_cons_zero, List.set_cons_succ] at H
        go_wp2_with fail
        refine (st_rowsT H 1 rfl HWC.out).mono ?_
        clear H
        rintro e w117 ⟨a5, rfl, H⟩
        try simp only [List.nil_append, List.cons_append, List.set_cons_zero, List.set_cons_succ] at H
        go_wp2_with fail
        refine (st_qsame H (H.rw_ 3 rfl) (H.rw_ 2 rfl) rfl).mono ?_
        clear H
        rintro e w118 ⟨rfl, H⟩
        try simp only [List.nil_append, List.cons_append, List.set_cons_zero, List.set_cons_succ] at H
        go_wp2_with fail
        have hwq := HWQ'.out.n
        refine (st_rowsT H 0 rfl hwq).mono ?_
        clear H
        rintro e w119 ⟨a6, rfl, H⟩
        try simp only [List.nil_append, List.cons_append, List.set_cons_zero, List.set_cons_succ] at H
        have HWN := hid hwq
        clear hwq
        obtain ⟨d0, d1, d2, d3, d4, d5, d6, d7⟩ := HO.out.2.2.2.2.2 bb ob rfl k hlt _ H.fr
        go_wp2_with fail
        clear d0 d1 d2 d3 d4 d5 d6 d7
        refine (st_doesZ H 1 rfl HV.out.wq HZ.out).mono ?_
        clear H
        rintro e w120 ⟨rfl, H⟩
        try simp only [List.nil_append, List.cons_append, List.set_cons_zero, List.set_cons_succ] at H
        go_wp2_with fail
        refine (st_rowsT H 1 rfl HWN.out).mono ?_
        clear H
        rintro e w121 ⟨a7, rfl, H⟩
        try simp only [List.nil_append, List.cons_append, List.set_cons_zero, List.set_cons_succ] at H
        go_wp2_with fail
        refine (st_qsame H (H.rw_ 5 rfl) (H.rw_ 4 rfl) rfl).mono ?_
        clear H
        rintro e w122 ⟨rfl, H⟩
        try simp only [List.nil_append, List.cons_append, List.set_cons_zero, List.set_cons_succ] at H
        go_wp2_with fail
        refine (st_rowsT H 0 rfl HWN.out).mono ?_
        clear H
        rintro e w123 ⟨a8, rfl, H⟩
        try simp only [List.nil_append, List.cons_append, List.set_cons_zero, List.set_cons_succ] at H
        go_wp2_with fail
        refine (st_qsame H (H.rw_ 6 rfl) (H.rw_ 4 rfl) rfl).mono ?_
        clear H
        rintro e w124 ⟨rfl, H⟩
        try simp only [List.nil_append, List.cons_append, List.set_cons_zero, List.set_cons_succ] at H
        go_wp2_with fail
        go_roundw
        case rel => exact ⟨k + 1, C, q', q', by omega, by go_num, rfl, H.take 2, HWQ'.out, HWQ'.out, fun _ _ => rfl⟩
        case measure => simp [intOf]; omega
      · have hkh : f < 0 ∨ k < f := by have := HKF.out; omega
        clear hkg
        rcases hkh with hf0 | hkf
        all_goals
          have H := HV.out.st
          go_wp2_with fail
          have hwc := (HV.out.wc).n
          refine (st_rowsT H 1 rfl hwc).mono ?_
          clear H
          rintro e w125 ⟨a4, rfl, H⟩
          try simp only [List.nil_append, List.cons_append, List.set_cons_zero, List.set_cons_succ] at H
          have HWC := hid hwc
          clear hwc
          obtain ⟨d0, d1, d2, d3, d4, d5, d6, d7⟩ := HO.out.2.2.2.2.2 bb ob rfl k hlt _ H.fr
          go_wp2_with fail
          clear d0 d1 d2 d3 d4 d5 d6 d7
          refine (st_doesZ H 0 rfl HV.out.wq HZ.out).mono ?_
          clear H
          rintro e w126 ⟨rfl, H⟩
          try simp only [List.nil_append, List.cons_append, List.set_cons_zero, List.set_cons_succ] at H
          go_wp2_with fail
          refine (st_rowsT H 1 rfl HWC.out).mono ?_
          clear H
          rintro e w127 ⟨a5, rfl, H⟩
          try simp only [List.nil_append, List.cons_append, List.set_cons_zero, List.set_cons_succ] at H
          go_wp2_with fail
          refine (st_qsame H (H.rw_ 3 rfl) (H.rw_ 2 rfl) rfl).mono ?_
          clear H
          rintro e w128 ⟨rfl, H⟩
          try simp only [List.nil_append, List.cons_append, List.set_cons_zero, List.set_cons_succ] at H
          go_wp2_with fail
          go_roundw
          case rel => exact ⟨k + 1, C, q', c, by omega, by go_num, rfl, H.take 2, HWQ'.out, HV.out.wc, fun h1 h2 => by have := HKF.out; omega⟩
          case measure => simp [intOf]; omega
    · have HF := hid HV.out.st.fr
      go_wp2_with fail
      refine (fixed11 _).mono ?_
      rintro e w129 ⟨rfl, hF2⟩
      go_wp2_with fail
      go_ret
      exact ⟨rfl, HF.out.trans hF2⟩

theorem qtwins_walk (w : World) (n : Int) (n1 : -9223372036854775808 ≤ n) (n2 : n ≤ 9223372036854775807) (s : Option Addr) (ns cs : Nat) (U : Nat → Value) (hT : SlIn w 8 64 s ns cs U) (hq0 : ∀ i, i < ns → I64 (U (i * 8))) (hq1 : ∀ i, i < ns → I64 (U (i * 8 + 1))) (hq2 : ∀ i, i < ns → I64 (U (i * 8 + 2))) (hq3 : ∀ i, i < ns → I64 (U (i * 8 + 3)))
    (hq4 : ∀ i, i < ns → I64 (U (i * 8 + 4))) (hq5 : ∀ i, i < ns → I64 (U (i * 8 + 5))) (hq6 : ∀ i, i < ns → I64 (U (i * 8 + 6))) (hq7 : ∀ i, i < ns → U64 (U (i * 8 + 7))) (f : Int) (f1 : -9223372036854775808 ≤ f) (f2 : f ≤ 9223372036854775807) :
    Calls Try.prog 5 #[.int .i64 n, .slice s ns cs, .int .i64 f] w fun e w' => e = .returned (.bool true) ∧ Fr [] w w' := by
  obtain ⟨l, hO⟩ := ops11_of hT hq0 hq1 hq2 hq3 hq4 hq5 hq6 hq7
  exact qtwins_any w n s ns cs l hO f f1 f2

end Go.Proofs.Ythdcpenhfccagaa
