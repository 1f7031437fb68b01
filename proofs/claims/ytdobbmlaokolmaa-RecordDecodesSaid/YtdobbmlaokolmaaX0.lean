/-
  gafferref08: within, Texts, zero, Check.
-/
import Derived.Test.YtdobbmlaokolmaaRM
import Derived.Test.YtdobbmlaokolmaaSm
namespace Go.Proofs.Ytdobbmlaokolmaa
open Go.RowKit
set_option linter.unusedVariables false
set_option linter.unusedSimpArgs false

theorem within_walk (w : World) (n low high : Int) :
    Calls Try.prog 26 #[.int .i64 n, .int .i64 low, .int .i64 high] w fun e w' => e = .returned (.bool (inB n low high)) ∧ w = w' := by
  unfold inB
  by_cases h1 : low ≤ n
  · by_cases h2 : n ≤ high
    · go_enter Try.func26, Try.ntmps26
      go_wp2
      go_ret
      exact ⟨by simp [h1, h2], rfl⟩
    · go_enter Try.func26, Try.ntmps26
      go_wp2
      go_ret
      exact ⟨by simp [h1, h2], rfl⟩
  · go_enter Try.func26, Try.ntmps26
    go_wp2
    go_ret
    exact ⟨by rw [decide_eq_false_iff_not.2 (by omega : ¬ low ≤ n)]; rfl, rfl⟩

theorem rtexts_walk (w : World) (a : Option Addr) (n cap : Nat) (l : List ByteArray) (hl : l.length = n) (h : In w 1 a n cap (sL.at_ l)) :
    Calls Try.prog 27 #[.slice a n cap] w fun e w' => e = .returned (.bool (textsB l)) ∧ w = w' := by
  have hm := h.max
  by_cases h1 : n < 1
  · have hz : textsB l = false := by cases hb : textsB l; rfl; have := (textsB_iff.1 hb).1; omega
    rw [hz]
    have h1' : (n : Int) < 1 := by omega
    clear h hz
    go_enter Try.func27, Try.ntmps27
    go_wp2
    go_ret
    exact ⟨rfl, rfl⟩
  by_cases h8 : 8 < n
  · have hz : textsB l = false := by cases hb : textsB l; rfl; have := (textsB_iff.1 hb).1; omega
    rw [hz]
    have h1' : ¬ (n : Int) < 1 := by omega
    have h2' : (8 : Int) < n := by omega
    clear h hz
    go_enter Try.func27, Try.ntmps27
    go_wp2
    go_ret
    exact ⟨rfl, rfl⟩
  have h1' : ¬ (n : Int) < 1 := by omega
  have h2' : ¬ (8 : Int) < n := by omega
  have hH := hid h
  have hB := hid (And.intro h1 h8)
  have hL := hid hl
  obtain ⟨Z, hZ⟩ : ∃ Z, textsB l = Z := ⟨_, rfl⟩
  rw [hZ]
  have hZ := hid hZ
  clear h h1 h8 hl
  go_enter Try.func27, Try.ntmps27
  go_wp2
  go_loopw [3] (fun i wr => ∃ k : Nat, k ≤ n ∧ i = .int .i64 k ∧ (∀ j, j < k → (sL.nth l j).size ≤ 32) ∧ w = wr) (fun i _ => n - (intOf i).toNat)
  case atStart => exact ⟨0, Nat.zero_le _, rfl, fun j hj => absurd hj (Nat.not_lt_zero _), rfl⟩
  case round =>
    obtain ⟨k, hk, rfl, hall, rfl⟩ := hrel
    have HAll := hid hall
    clear hall
    by_cases hlt : k < n
    · obtain ⟨bb, ob, rfl⟩ := hH.out.sm (by omega)
      have c0 := str_cells hH.out k hlt
      by_cases hs : 32 < (sL.nth l k).size
      · have hz : Z = false := by
          rw [← hZ.out]
          cases hb : textsB l
          · rfl
          · have := (textsB_iff.1 hb).2 (sL.nth l k) (sL.mem_nth (by have := hL.out; omega)); omega
        subst hz
        generalize sL.nth l k = x at c0 hs
        go_wp2
        go_ret
        exact ⟨rfl, rfl⟩
      · have HS := hid hs
        have hs' : ((sL.nth l k).size : Int) ≤ 32 := by omega
        generalize hx : sL.nth l k = x at c0 hs hs' HS
        have hx := hid hx
        clear hs
        go_wp2
        go_roundw
        case rel => exact ⟨k + 1, by omega, by go_num, fun j hj => by by_cases hjk : j = k; (subst hjk; rw [hx.out]; have := HS.out; omega); exact HAll.out j (by omega), trivial⟩
        case measure => simp [intOf]; omega
    · have hz : Z = true := by
        rw [← hZ.out]
        refine textsB_iff.2 ⟨by have := hL.out; have := hB.out; omega, fun s hs => ?_⟩
        obtain ⟨k', hk', rfl⟩ := List.getElem_of_mem hs
        have := HAll.out k' (by have := hL.out; omega)
        rwa [show sL.nth l k' = l[k'] from by simp [Lay.nth, List.getD_eq_getElem?_getD, hk']] at this
      subst hz
      go_wp2
      go_ret
      exact ⟨rfl, rfl⟩

/-- Nothing but its kind. -/
def CV.Bare (c : CV) : Prop := c.n = 0 ∧ c.job = 0 ∧ c.badge = 0 ∧ c.slot = 0 ∧ c.life = 0 ∧ c.code = 0 ∧ c.bits = 0 ∧ c.prog.size = 0 ∧ c.texts.length = 0

set_option maxHeartbeats 4000000 in
set_option maxRecDepth 100000 in
theorem zero_walk (w : World) (c : CV) (a : Option Addr) (cap : Nat) (hm : c.texts.length ≤ 9223372036854775807) :
    Calls Try.prog 28 #[.agg #[.int .i64 c.kind, .int .i64 c.n, .int .i64 c.job, .int .i64 c.badge, .int .i64 c.slot, .int .i64 c.life, .int .i64 c.code, .int .u64 c.bits, .string c.prog, .slice a c.texts.length cap]] w fun e w' => IsB c.Bare e ∧ Fr [] w w' := by
  obtain ⟨kind, n, job, badge, slot, life, code, bits, prog, texts⟩ := c
  simp only at hm ⊢
  have HF : Fr [] w (w.alloc (.cells #[.int .i64 kind, .int .i64 n, .int .i64 job, .int .i64 badge, .int .i64 slot, .int .i64 life, .int .i64 code, .int .u64 bits, .string prog, .slice a texts.length cap] 27)) := (Fr.refl _ _).alloc _
  have HF := hid HF
  by_cases h0 : n = 0
  case neg =>
    have e0 : (n == 0) = false := by rw [beq_eq_false_iff_ne]; exact h0
    have HN := hid h0
    clear h0
    go_enter Try.func28, Try.ntmps28
    go_wp2
    all_goals go_ret
    all_goals exact ⟨IsB.no (fun h => absurd h.1 HN.out), HF.out⟩
  subst h0
  by_cases h1 : job = 0
  case neg =>
    have e1 : (job == 0) = false := by rw [beq_eq_false_iff_ne]; exact h1
    have HN := hid h1
    clear h1
    go_enter Try.func28, Try.ntmps28
    go_wp2
    all_goals go_ret
    all_goals exact ⟨IsB.no (fun h => absurd h.2.1 HN.out), HF.out⟩
  subst h1
  by_cases h2 : badge = 0
  case neg =>
    have e2 : (badge == 0) = false := by rw [beq_eq_false_iff_ne]; exact h2
    have HN := hid h2
    clear h2
    go_enter Try.func28, Try.ntmps28
    go_wp2
    all_goals go_ret
    all_goals exact ⟨IsB.no (fun h => absurd h.2.2.1 HN.out), HF.out⟩
  subst h2
  by_cases h3 : slot = 0
  case neg =>
    have e3 : (slot == 0) = false := by rw [beq_eq_false_iff_ne]; exact h3
    have HN := hid h3
    clear h3
    go_enter Try.func28, Try.ntmps28
    go_wp2
    all_goals go_ret
    all_goals exact ⟨IsB.no (fun h => absurd h.2.2.2.1 HN.out), HF.out⟩
  subst h3
  by_cases h4 : life = 0
  case neg =>
    have e4 : (life == 0) = false := by rw [beq_eq_false_iff_ne]; exact h4
    have HN := hid h4
    clear h4
    go_enter Try.func28, Try.ntmps28
    go_wp2
    all_goals go_ret
    all_goals exact ⟨IsB.no (fun h => absurd h.2.2.2.2.1 HN.out), HF.out⟩
  subst h4
  by_cases h5 : code = 0
  case neg =>
    have e5 : (code == 0) = false := by rw [beq_eq_false_iff_ne]; exact h5
    have HN := hid h5
    go_enter Try.func28, Try.ntmps28
    go_wp2
    all_goals go_ret
    all_goals exact ⟨IsB.no (fun h => absurd h.2.2.2.2.2.1 HN.out), HF.out⟩
  subst h5
  by_cases h6 : bits = 0
  case neg =>
    have e6 : (bits == 0) = false := by rw [beq_eq_false_iff_ne]; exact h6
    have HN := hid h6
    go_enter Try.func28, Try.ntmps28
    go_wp2
    all_goals go_ret
    all_goals exact ⟨IsB.no (fun h => absurd h.2.2.2.2.2.2.1 HN.out), HF.out⟩
  subst h6
  by_cases h8 : prog.size = 0
  case neg =>
    have e8 : prog.toList.isEmpty = false := by cases hb : prog.toList.isEmpty; rfl; exact absurd (size0.1 hb) h8
    have HN := hid h8
    clear h8
    go_enter Try.func28, Try.ntmps28
    go_wp2
    all_goals go_ret
    all_goals exact ⟨IsB.no (fun h => absurd h.2.2.2.2.2.2.2.1 HN.out), HF.out⟩
  have e8 : prog.toList.isEmpty = true := size0.2 h8
  have H8 := hid h8
  clear h8
  by_cases h9 : texts.length = 0
  case neg =>
    have e9 : ((texts.length : Int) == 0) = false := by rw [beq_eq_false_iff_ne]; omega
    have HN := hid h9
    clear h9
    go_enter Try.func28, Try.ntmps28
    go_wp2
    all_goals go_ret
    all_goals exact ⟨IsB.no (fun h => absurd h.2.2.2.2.2.2.2.2 HN.out), HF.out⟩
  have e9 : ((texts.length : Int) == 0) = true := by rw [beq_iff_eq]; omega
  have H9 := hid h9
  clear h9
  go_enter Try.func28, Try.ntmps28
  go_wp2
  all_goals go_ret
  all_goals exact ⟨IsB.yes ⟨rfl, rfl, rfl, rfl, rfl, rfl, rfl, H8.out, H9.out⟩, HF.out⟩

end Go.Proofs.Ytdobbmlaokolmaa
