/-
  gafferref08: Check.
-/
import Derived.Test.YtdobbmlaokolmaaX0
namespace Go.Proofs.Ytdobbmlaokolmaa
open Go.RowKit
set_option linter.unusedVariables false
set_option linter.unusedSimpArgs false

theorem ck1 {c : CV} (hk : c.kind = 1) : c.check = 0 ↔ (inB c.n 1 1099511627776 = true) ∧ CV.Bare { c with n := 0 } := by
  have hp : (⟨#[]⟩ : ByteArray).size = 0 := rfl
  have hl : ([] : List ByteArray).length = 0 := rfl
  rw [check_iff, hk]
  simp only [show hasL 1 110 = true from by decide, show hasL 1 106 = false from by decide, show hasL 1 112 = false from by decide, show hasL 1 98 = false from by decide, show hasL 1 115 = false from by decide, show hasL 1 116 = false from by decide, show hasL 1 114 = false from by decide, if_true, true_and, and_true, Bool.false_eq_true, if_false, CV.Bare, inB_iff, textsB_iff, Bool.or_eq_true, beq_iff_eq, hp, hl]
  omega
theorem ck2 {c : CV} (hk : c.kind = 2) : c.check = 0 ↔ (inB c.job 1 8 = true ∧ inB c.prog.size 1 1024 = true) ∧ CV.Bare { c with job := 0, prog := ⟨#[]⟩ } := by
  have hp : (⟨#[]⟩ : ByteArray).size = 0 := rfl
  have hl : ([] : List ByteArray).length = 0 := rfl
  rw [check_iff, hk]
  simp only [show hasL 2 110 = false from by decide, show hasL 2 106 = true from by decide, show hasL 2 112 = true from by decide, show hasL 2 98 = false from by decide, show hasL 2 115 = false from by decide, show hasL 2 116 = false from by decide, show hasL 2 114 = false from by decide, if_true, true_and, and_true, Bool.false_eq_true, if_false, CV.Bare, inB_iff, textsB_iff, Bool.or_eq_true, beq_iff_eq, hp, hl]
  omega
theorem ck3 {c : CV} (hk : c.kind = 3) : c.check = 0 ↔ (inB c.job 1 8 = true ∧ inB c.badge 1 1099511627776 = true ∧ inB c.slot 0 7 = true ∧ inB c.life 1 1099511627776 = true) ∧ CV.Bare { c with job := 0, badge := 0, slot := 0, life := 0 } := by
  have hp : (⟨#[]⟩ : ByteArray).size = 0 := rfl
  have hl : ([] : List ByteArray).length = 0 := rfl
  rw [check_iff, hk]
  simp only [show hasL 3 110 = false from by decide, show hasL 3 106 = true from by decide, show hasL 3 112 = false from by decide, show hasL 3 98 = true from by decide, show hasL 3 115 = true from by decide, show hasL 3 116 = false from by decide, show hasL 3 114 = false from by decide, if_true, true_and, and_true, Bool.false_eq_true, if_false, CV.Bare, inB_iff, textsB_iff, Bool.or_eq_true, beq_iff_eq, hp, hl]
  omega
theorem ck4 {c : CV} (hk : c.kind = 4) : c.check = 0 ↔ (inB c.badge 1 1099511627776 = true ∧ textsB c.texts = true) ∧ CV.Bare { c with badge := 0, texts := [] } := by
  have hp : (⟨#[]⟩ : ByteArray).size = 0 := rfl
  have hl : ([] : List ByteArray).length = 0 := rfl
  rw [check_iff, hk]
  simp only [show hasL 4 110 = false from by decide, show hasL 4 106 = false from by decide, show hasL 4 112 = false from by decide, show hasL 4 98 = true from by decide, show hasL 4 115 = false from by decide, show hasL 4 116 = true from by decide, show hasL 4 114 = false from by decide, if_true, true_and, and_true, Bool.false_eq_true, if_false, CV.Bare, inB_iff, textsB_iff, Bool.or_eq_true, beq_iff_eq, hp, hl]
  constructor
  · rintro ⟨_, g1, g2, g3, g4, g5, g6, g7⟩
    exact ⟨⟨g4, g6⟩, by omega⟩
  · rintro ⟨⟨g4, g6⟩, g⟩
    exact ⟨by omega, by omega, by omega, by omega, g4, by omega, g6, by omega⟩
theorem ck5 {c : CV} (hk : c.kind = 5) : c.check = 0 ↔ (inB c.badge 1 1099511627776 = true) ∧ CV.Bare { c with badge := 0 } := by
  have hp : (⟨#[]⟩ : ByteArray).size = 0 := rfl
  have hl : ([] : List ByteArray).length = 0 := rfl
  rw [check_iff, hk]
  simp only [show hasL 5 110 = false from by decide, show hasL 5 106 = false from by decide, show hasL 5 112 = false from by decide, show hasL 5 98 = true from by decide, show hasL 5 115 = false from by decide, show hasL 5 116 = false from by decide, show hasL 5 114 = false from by decide, if_true, true_and, and_true, Bool.false_eq_true, if_false, CV.Bare, inB_iff, textsB_iff, Bool.or_eq_true, beq_iff_eq, hp, hl]
  omega
theorem ck6 {c : CV} (hk : c.kind = 6) : c.check = 0 ↔ (inB c.badge 1 1099511627776 = true ∧ inB c.code 0 7 = true ∧ ((c.code == 0) || (c.bits == 0)) = true) ∧ CV.Bare { c with badge := 0, code := 0, bits := 0 } := by
  have hp : (⟨#[]⟩ : ByteArray).size = 0 := rfl
  have hl : ([] : List ByteArray).length = 0 := rfl
  rw [check_iff, hk]
  simp only [show hasL 6 110 = false from by decide, show hasL 6 106 = false from by decide, show hasL 6 112 = false from by decide, show hasL 6 98 = true from by decide, show hasL 6 115 = false from by decide, show hasL 6 116 = false from by decide, show hasL 6 114 = true from by decide, if_true, true_and, and_true, Bool.false_eq_true, if_false, CV.Bare, inB_iff, textsB_iff, Bool.or_eq_true, beq_iff_eq, hp, hl]
  omega

theorem val81 {c : CV} (h1 : 1 ≤ c.kind) (h6 : c.kind ≤ 6) (h : ¬ c.check = 0) : c.check = 81 := by
  have := check_vals c
  omega

set_option maxHeartbeats 4000000 in
set_option maxRecDepth 100000 in
theorem rcheck_walk (w : World) (c : CV) (t : TS) (ht : In w 1 t.a c.texts.length t.c (sL.at_ c.texts)) :
    Calls Try.prog 12 #[.agg (c.f t).toArray] w fun e w' => e = .returned (.int .i64 c.check) ∧ Fr [] w w' := by
  have hm := ht.max
  obtain ⟨Z, hZ⟩ : ∃ Z, c.check = Z := ⟨_, rfl⟩
  rw [hZ]
  have hv := check_vals c
  rw [hZ] at hv
  have hc1 := fun h => ck1 (c := c) h
  rw [hZ] at hc1
  have hc2 := fun h => ck2 (c := c) h
  rw [hZ] at hc2
  have hc3 := fun h => ck3 (c := c) h
  rw [hZ] at hc3
  have hc4 := fun h => ck4 (c := c) h
  rw [hZ] at hc4
  have hc5 := fun h => ck5 (c := c) h
  rw [hZ] at hc5
  have hc6 := fun h => ck6 (c := c) h
  rw [hZ] at hc6
  obtain ⟨kind, n, job, badge, slot, life, code, bits, prog, texts⟩ := c
  obtain ⟨ta, tc⟩ := t
  simp only at ht hm hv hc1 hc2 hc3 hc4 hc5 hc6
  have hT := hid ht
  clear hZ ht
  show Calls _ _ #[.agg #[.int .i64 kind, .int .i64 n, .int .i64 job, .int .i64 badge, .int .i64 slot, .int .i64 life, .int .i64 code, .int .u64 bits, .string prog, .slice ta texts.length tc]] _ _
  by_cases hk : ¬ (1 ≤ kind ∧ kind ≤ 6)
  · have hz : Z = 80 := by omega
    subst hz
    have n1 : (kind == 1) = false := by rw [beq_eq_false_iff_ne]; omega
    have n2 : (kind == 2) = false := by rw [beq_eq_false_iff_ne]; omega
    have n3 : (kind == 3) = false := by rw [beq_eq_false_iff_ne]; omega
    have n4 : (kind == 4) = false := by rw [beq_eq_false_iff_ne]; omega
    have n5 : (kind == 5) = false := by rw [beq_eq_false_iff_ne]; omega
    have n6 : (kind == 6) = false := by rw [beq_eq_false_iff_ne]; omega
    clear hv hc1 hc2 hc3 hc4 hc5 hc6 hk
    go_enter Try.func12, Try.ntmps12
    go_wp2_with fail
    go_ret
    exact ⟨rfl, ((Fr.refl _ _).alloc _).alloc _⟩
  have hk : kind = 1 ∨ kind = 2 ∨ kind = 3 ∨ kind = 4 ∨ kind = 5 ∨ kind = 6 := by omega
  rcases hk with rfl | rfl | rfl | rfl | rfl | rfl
  · have HV := hid (show ¬ Z = 0 → Z = 81 from fun h => by omega)
    have HC := hid (hc1 rfl)
    clear hv hc1 hc2 hc3 hc4 hc5 hc6 hk
    rcases q0 : inB n 1 1099511627776 with _ | _
    · have HN := hid (show ¬ Z = 0 from fun h => by have h1 := (HC.out.1 h).1; simp [q0] at h1)
      have hz := HV.out HN.out
      subst hz
      go_enter Try.func12, Try.ntmps12
      go_wp2_with (first
        | (go_at_call 26; refine (within_walk _ _ _ _).mono ?_; rintro e w1 ⟨rfl, rfl⟩))
      all_goals go_ret
      all_goals exact ⟨rfl, ((Fr.refl _ _).alloc _).alloc _⟩
    have HO := hid (q0)
    go_enter Try.func12, Try.ntmps12
    go_wp2_with (first
      | (go_at_call 26; refine (within_walk _ _ _ _).mono ?_; rintro e w1 ⟨rfl, rfl⟩))
    refine (zero_walk _ ⟨1, 0, job, badge, slot, life, code, bits, prog, texts⟩ ta tc hm).mono ?_
    rintro e w1 ⟨⟨z, rfl, hz⟩, hF⟩
    have HZ := hid hz
    have hF1 := hid hF
    clear hz hF
    cases z
    · have hz := HV.out (fun h => absurd (HZ.out.2 (HC.out.1 h).2) (by decide))
      subst hz
      go_wp2_with fail
      go_ret
      exact ⟨rfl, (((Fr.refl _ _).alloc _).alloc _).trans hF1.out⟩
    · have hz := HC.out.2 ⟨HO.out, HZ.out.1 rfl⟩
      subst hz
      go_wp2_with fail
      go_ret
      exact ⟨rfl, (((Fr.refl _ _).alloc _).alloc _).trans hF1.out⟩
  · have HV := hid (show ¬ Z = 0 → Z = 81 from fun h => by omega)
    have HC := hid (hc2 rfl)
    clear hv hc1 hc2 hc3 hc4 hc5 hc6 hk
    rcases q0 : inB job 1 8 with _ | _
    · have HN := hid (show ¬ Z = 0 from fun h => by have h1 := (HC.out.1 h).1; simp [q0] at h1)
      have hz := HV.out HN.out
      subst hz
      go_enter Try.func12, Try.ntmps12
      go_wp2_with (first
        | (go_at_call 26; refine (within_walk _ _ _ _).mono ?_; rintro e w1 ⟨rfl, rfl⟩))
      all_goals go_ret
      all_goals exact ⟨rfl, ((Fr.refl _ _).alloc _).alloc _⟩
    rcases q1 : inB (prog.size : Int) 1 1024 with _ | _
    · have HN := hid (show ¬ Z = 0 from fun h => by have h1 := (HC.out.1 h).1; simp [q1] at h1)
      have hz := HV.out HN.out
      subst hz
      go_enter Try.func12, Try.ntmps12
      go_wp2_with (first
        | (go_at_call 26; refine (within_walk _ _ _ _).mono ?_; rintro e w1 ⟨rfl, rfl⟩))
      all_goals go_ret
      all_goals exact ⟨rfl, ((Fr.refl _ _).alloc _).alloc _⟩
    have HO := hid (And.intro q0 (q1))
    go_enter Try.func12, Try.ntmps12
    go_wp2_with (first
      | (go_at_call 26; refine (within_walk _ _ _ _).mono ?_; rintro e w1 ⟨rfl, rfl⟩))
    refine (zero_walk _ ⟨2, n, 0, badge, slot, life, code, bits, ⟨#[]⟩, texts⟩ ta tc hm).mono ?_
    rintro e w1 ⟨⟨z, rfl, hz⟩, hF⟩
    have HZ := hid hz
    have hF1 := hid hF
    clear hz hF
    cases z
    · have hz := HV.out (fun h => absurd (HZ.out.2 (HC.out.1 h).2) (by decide))
      subst hz
      go_wp2_with fail
      go_ret
      exact ⟨rfl, (((Fr.refl _ _).alloc _).alloc _).trans hF1.out⟩
    · have hz := HC.out.2 ⟨HO.out, HZ.out.1 rfl⟩
      subst hz
      go_wp2_with fail
      go_ret
      exact ⟨rfl, (((Fr.refl _ _).alloc _).alloc _).trans hF1.out⟩
  · have HV := hid (show ¬ Z = 0 → Z = 81 from fun h => by omega)
    have HC := hid (hc3 rfl)
    clear hv hc1 hc2 hc3 hc4 hc5 hc6 hk
    rcases q0 : inB job 1 8 with _ | _
    · have HN := hid (show ¬ Z = 0 from fun h => by have h1 := (HC.out.1 h).1; simp [q0] at h1)
      have hz := HV.out HN.out
      subst hz
      go_enter Try.func12, Try.ntmps12
      go_wp2_with (first
        | (go_at_call 26; refine (within_walk _ _ _ _).mono ?_; rintro e w1 ⟨rfl, rfl⟩))
      all_goals go_ret
      all_goals exact ⟨rfl, ((Fr.refl _ _).alloc _).alloc _⟩
    rcases q1 : inB badge 1 1099511627776 with _ | _
    · have HN := hid (show ¬ Z = 0 from fun h => by have h1 := (HC.out.1 h).1; simp [q1] at h1)
      have hz := HV.out HN.out
      subst hz
      go_enter Try.func12, Try.ntmps12
      go_wp2_with (first
        | (go_at_call 26; refine (within_walk _ _ _ _).mono ?_; rintro e w1 ⟨rfl, rfl⟩))
      all_goals go_ret
      all_goals exact ⟨rfl, ((Fr.refl _ _).alloc _).alloc _⟩
    rcases q2 : inB slot 0 7 with _ | _
    · have HN := hid (show ¬ Z = 0 from fun h => by have h1 := (HC.out.1 h).1; simp [q2] at h1)
      have hz := HV.out HN.out
      subst hz
      go_enter Try.func12, Try.ntmps12
      go_wp2_with (first
        | (go_at_call 26; refine (within_walk _ _ _ _).mono ?_; rintro e w1 ⟨rfl, rfl⟩))
      all_goals go_ret
      all_goals exact ⟨rfl, ((Fr.refl _ _).alloc _).alloc _⟩
    rcases q3 : inB life 1 1099511627776 with _ | _
    · have HN := hid (show ¬ Z = 0 from fun h => by have h1 := (HC.out.1 h).1; simp [q3] at h1)
      have hz := HV.out HN.out
      subst hz
      go_enter Try.func12, Try.ntmps12
      go_wp2_with (first
        | (go_at_call 26; refine (within_walk _ _ _ _).mono ?_; rintro e w1 ⟨rfl, rfl⟩))
      all_goals go_ret
      all_goals exact ⟨rfl, ((Fr.refl _ _).alloc _).alloc _⟩
    have HO := hid (And.intro q0 (And.intro q1 (And.intro q2 (q3))))
    go_enter Try.func12, Try.ntmps12
    go_wp2_with (first
      | (go_at_call 26; refine (within_walk _ _ _ _).mono ?_; rintro e w1 ⟨rfl, rfl⟩))
    refine (zero_walk _ ⟨3, n, 0, 0, 0, 0, code, bits, prog, texts⟩ ta tc hm).mono ?_
    rintro e w1 ⟨⟨z, rfl, hz⟩, hF⟩
    have HZ := hid hz
    have hF1 := hid hF
    clear hz hF
    cases z
    · have hz := HV.out (fun h => absurd (HZ.out.2 (HC.out.1 h).2) (by decide))
      subst hz
      go_wp2_with fail
      go_ret
      exact ⟨rfl, (((Fr.refl _ _).alloc _).alloc _).trans hF1.out⟩
    · have hz := HC.out.2 ⟨HO.out, HZ.out.1 rfl⟩
      subst hz
      go_wp2_with fail
      go_ret
      exact ⟨rfl, (((Fr.refl _ _).alloc _).alloc _).trans hF1.out⟩
  · have HV := hid (show ¬ Z = 0 → Z = 81 from fun h => by omega)
    have HC := hid (hc4 rfl)
    clear hv hc1 hc2 hc3 hc4 hc5 hc6 hk
    rcases q0 : inB badge 1 1099511627776 with _ | _
    · have HN := hid (show ¬ Z = 0 from fun h => by have h1 := (HC.out.1 h).1; simp [q0] at h1)
      have hz := HV.out HN.out
      subst hz
      go_enter Try.func12, Try.ntmps12
      go_wp2_with (first
        | (go_at_call 26; refine (within_walk _ _ _ _).mono ?_; rintro e w1 ⟨rfl, rfl⟩)
        | (go_at_call 27; refine (rtexts_walk _ _ _ _ texts rfl (hT.out.fr0 (((Fr.refl _ _).alloc _).alloc _))).mono ?_; rintro e w1 ⟨rfl, rfl⟩))
      all_goals go_ret
      all_goals exact ⟨rfl, ((Fr.refl _ _).alloc _).alloc _⟩
    rcases q1 : textsB texts with _ | _
    · have HN := hid (show ¬ Z = 0 from fun h => by have h1 := (HC.out.1 h).1; simp [q1] at h1)
      have hz := HV.out HN.out
      subst hz
      go_enter Try.func12, Try.ntmps12
      go_wp2_with (first
        | (go_at_call 26; refine (within_walk _ _ _ _).mono ?_; rintro e w1 ⟨rfl, rfl⟩)
        | (go_at_call 27; refine (rtexts_walk _ _ _ _ texts rfl (hT.out.fr0 (((Fr.refl _ _).alloc _).alloc _))).mono ?_; rintro e w1 ⟨rfl, rfl⟩))
      all_goals go_ret
      all_goals exact ⟨rfl, ((Fr.refl _ _).alloc _).alloc _⟩
    have HO := hid (And.intro q0 (q1))
    go_enter Try.func12, Try.ntmps12
    go_wp2_with (first
      | (go_at_call 26; refine (within_walk _ _ _ _).mono ?_; rintro e w1 ⟨rfl, rfl⟩)
      | (go_at_call 27; refine (rtexts_walk _ _ _ _ texts rfl (hT.out.fr0 (((Fr.refl _ _).alloc _).alloc _))).mono ?_; rintro e w1 ⟨rfl, rfl⟩))
    refine (zero_walk _ ⟨4, n, job, 0, slot, life, code, bits, prog, []⟩ none 0 (Nat.zero_le _)).mono ?_
    rintro e w1 ⟨⟨z, rfl, hz⟩, hF⟩
    have HZ := hid hz
    have hF1 := hid hF
    clear hz hF
    cases z
    · have hz := HV.out (fun h => absurd (HZ.out.2 (HC.out.1 h).2) (by decide))
      subst hz
      go_wp2_with fail
      go_ret
      exact ⟨rfl, (((Fr.refl _ _).alloc _).alloc _).trans hF1.out⟩
    · have hz := HC.out.2 ⟨HO.out, HZ.out.1 rfl⟩
      subst hz
      go_wp2_with fail
      go_ret
      exact ⟨rfl, (((Fr.refl _ _).alloc _).alloc _).trans hF1.out⟩
  · have HV := hid (show ¬ Z = 0 → Z = 81 from fun h => by omega)
    have HC := hid (hc5 rfl)
    clear hv hc1 hc2 hc3 hc4 hc5 hc6 hk
    rcases q0 : inB badge 1 1099511627776 with _ | _
    · have HN := hid (show ¬ Z = 0 from fun h => by have h1 := (HC.out.1 h).1; simp [q0] at h1)
      have hz := HV.out HN.out
      subst hz
      go_enter Try.func12, Try.ntmps12
      go_wp2_with (first
        | (go_at_call 26; refine (within_walk _ _ _ _).mono ?_; rintro e w1 ⟨rfl, rfl⟩))
      all_goals go_ret
      all_goals exact ⟨rfl, ((Fr.refl _ _).alloc _).alloc _⟩
    have HO := hid (q0)
    go_enter Try.func12, Try.ntmps12
    go_wp2_with (first
      | (go_at_call 26; refine (within_walk _ _ _ _).mono ?_; rintro e w1 ⟨rfl, rfl⟩))
    refine (zero_walk _ ⟨5, n, job, 0, slot, life, code, bits, prog, texts⟩ ta tc hm).mono ?_
    rintro e w1 ⟨⟨z, rfl, hz⟩, hF⟩
    have HZ := hid hz
    have hF1 := hid hF
    clear hz hF
    cases z
    · have hz := HV.out (fun h => absurd (HZ.out.2 (HC.out.1 h).2) (by decide))
      subst hz
      go_wp2_with fail
      go_ret
      exact ⟨rfl, (((Fr.refl _ _).alloc _).alloc _).trans hF1.out⟩
    · have hz := HC.out.2 ⟨HO.out, HZ.out.1 rfl⟩
      subst hz
      go_wp2_with fail
      go_ret
      exact ⟨rfl, (((Fr.refl _ _).alloc _).alloc _).trans hF1.out⟩
  · have HV := hid (show ¬ Z = 0 → Z = 81 from fun h => by omega)
    have HC := hid (hc6 rfl)
    clear hv hc1 hc2 hc3 hc4 hc5 hc6 hk
    rcases q0 : inB badge 1 1099511627776 with _ | _
    · have HN := hid (show ¬ Z = 0 from fun h => by have h1 := (HC.out.1 h).1; simp [q0] at h1)
      have hz := HV.out HN.out
      subst hz
      go_enter Try.func12, Try.ntmps12
      go_wp2_with (first
        | (go_at_call 26; refine (within_walk _ _ _ _).mono ?_; rintro e w1 ⟨rfl, rfl⟩))
      all_goals go_ret
      all_goals exact ⟨rfl, ((Fr.refl _ _).alloc _).alloc _⟩
    rcases q1 : inB code 0 7 with _ | _
    · have HN := hid (show ¬ Z = 0 from fun h => by have h1 := (HC.out.1 h).1; simp [q1] at h1)
      have hz := HV.out HN.out
      subst hz
      go_enter Try.func12, Try.ntmps12
      go_wp2_with (first
        | (go_at_call 26; refine (within_walk _ _ _ _).mono ?_; rintro e w1 ⟨rfl, rfl⟩))
      all_goals go_ret
      all_goals exact ⟨rfl, ((Fr.refl _ _).alloc _).alloc _⟩
    rcases q2 : (code == 0) with _ | _
    · rcases q3 : (bits == 0) with _ | _
      · have HN := hid (show ¬ Z = 0 from fun h => by have h1 := (HC.out.1 h).1; simp [q2, q3] at h1)
        have hz := HV.out HN.out
        subst hz
        go_enter Try.func12, Try.ntmps12
        go_wp2_with (first
          | (go_at_call 26; refine (within_walk _ _ _ _).mono ?_; rintro e w1 ⟨rfl, rfl⟩))
        all_goals go_ret
        all_goals exact ⟨rfl, ((Fr.refl _ _).alloc _).alloc _⟩
      · have HO := hid (show _ from And.intro q0 (And.intro q1 (show ((code == 0) || (bits == 0)) = true by rw [q3]; simp)))
        go_enter Try.func12, Try.ntmps12
        go_wp2_with (first
          | (go_at_call 26; refine (within_walk _ _ _ _).mono ?_; rintro e w1 ⟨rfl, rfl⟩))
        refine (zero_walk _ ⟨6, n, job, 0, slot, life, 0, 0, prog, texts⟩ ta tc hm).mono ?_
        rintro e w1 ⟨⟨z, rfl, hz⟩, hF⟩
        have HZ := hid hz
        have hF1 := hid hF
        clear hz hF
        cases z
        · have hz := HV.out (fun h => absurd (HZ.out.2 (HC.out.1 h).2) (by decide))
          subst hz
          go_wp2_with fail
          go_ret
          exact ⟨rfl, (((Fr.refl _ _).alloc _).alloc _).trans hF1.out⟩
        · have hz := HC.out.2 ⟨HO.out, HZ.out.1 rfl⟩
          subst hz
          go_wp2_with fail
          go_ret
          exact ⟨rfl, (((Fr.refl _ _).alloc _).alloc _).trans hF1.out⟩
    · have HO := hid (show _ from And.intro q0 (And.intro q1 (show ((code == 0) || (bits == 0)) = true by rw [q2]; simp)))
      go_enter Try.func12, Try.ntmps12
      go_wp2_with (first
        | (go_at_call 26; refine (within_walk _ _ _ _).mono ?_; rintro e w1 ⟨rfl, rfl⟩))
      refine (zero_walk _ ⟨6, n, job, 0, slot, life, 0, 0, prog, texts⟩ ta tc hm).mono ?_
      rintro e w1 ⟨⟨z, rfl, hz⟩, hF⟩
      have HZ := hid hz
      have hF1 := hid hF
      clear hz hF
      cases z
      · have hz := HV.out (fun h => absurd (HZ.out.2 (HC.out.1 h).2) (by decide))
        subst hz
        go_wp2_with fail
        go_ret
        exact ⟨rfl, (((Fr.refl _ _).alloc _).alloc _).trans hF1.out⟩
      · have hz := HC.out.2 ⟨HO.out, HZ.out.1 rfl⟩
        subst hz
        go_wp2_with fail
        go_ret
        exact ⟨rfl, (((Fr.refl _ _).alloc _).alloc _).trans hF1.out⟩

end Go.Proofs.Ytdobbmlaokolmaa
