/-
  RecordTells: the walk.
-/
import Derived.Test.YtdobbmlaokolmaaRD
import Derived.Test.YtdobbmlaokolmaaChArg
namespace Go.Proofs.Ytdobbmlaokolmaa
open Go.RowKit
set_option linter.unusedVariables false
set_option linter.unusedSimpArgs false

theorem encGo_run {l : List CV} : ∀ (k : Nat) (s : List UInt8), k ≤ l.length → (∀ j c, j < k → l[j]? = some c → c.check = 0) → ∃ s', s.length ≤ s'.length ∧ encGo l s = encGo (l.drop k) s'
  | 0, s, _, _ => ⟨s, Nat.le_refl _, rfl⟩
  | k + 1, s, hk, h => by
    obtain ⟨s', h1, h2⟩ := encGo_run k s (by omega) (fun j c hj hx => h j c (by omega) hx)
    have hx : l[k]? = some l[k] := List.getElem?_eq_getElem (by omega)
    rw [h2, encGo_step hx, if_pos (h k _ (Nat.lt_succ_self k) hx)]
    exact ⟨_, by rw [List.length_append]; omega, rfl⟩
theorem enc_bad {l : List CV} {k : Nat} {c : CV} (hn : inB l.length 1 16 = true) (hx : l[k]? = some c) (hall : ∀ j d, j < k → l[j]? = some d → d.check = 0) (hc : ¬ c.check = 0) : encode l = (⟨#[]⟩, c.check) := by
  unfold encode
  obtain ⟨s', _, h2⟩ := encGo_run k (nf l.length).data.toList (by have := (List.getElem?_eq_some_iff.1 hx).1; omega) hall
  rw [if_pos hn, h2, encGo_step hx, if_neg hc]
theorem enc_good {l : List CV} (hn : inB l.length 1 16 = true) (hall : ∀ j d, j < l.length → l[j]? = some d → d.check = 0) : ((encode l).2 = 0 ∧ 0 < (encode l).1.size) ∨ encode l = (⟨#[]⟩, 82) := by
  unfold encode
  obtain ⟨s', h1, h2⟩ := encGo_run l.length (nf l.length).data.toList (Nat.le_refl _) hall
  rw [if_pos hn, h2, List.drop_of_length_le (Nat.le_refl _)]
  simp only [encGo]
  by_cases hb : 2048 < s'.length
  · rw [if_pos hb]; exact .inr rfl
  · rw [if_neg hb]
    refine .inl ⟨rfl, ?_⟩
    have h3 := nf_ne l.length
    have h4 : 0 < (nf l.length).data.toList.length := List.length_pos_iff.2 h3
    show 0 < s'.toArray.size
    simp; omega
theorem enc_many {l : List CV} (hn : inB l.length 1 16 = false) : encode l = (⟨#[]⟩, 82) := by
  unfold encode; rw [hn]; rfl
theorem check_vals (c : CV) : (c.check = 80 ∧ (c.kind < 1 ∨ 6 < c.kind)) ∨ (c.check = 81 ∧ 1 ≤ c.kind ∧ c.kind ≤ 6) ∨ c.check = 0 ∧ 1 ≤ c.kind ∧ c.kind ≤ 6 := by
  unfold CV.check
  cases h : inB c.kind 1 6
  · left
    refine ⟨by simp, ?_⟩
    have : ¬ (1 ≤ c.kind ∧ c.kind ≤ 6) := fun h2 => by rw [inB_iff.2 h2] at h; cases h
    omega
  · right
    have := inB_iff.1 h
    rw [if_pos rfl]
    split
    · exact .inr ⟨rfl, this⟩
    · exact .inl ⟨rfl, this⟩

set_option maxHeartbeats 4000000 in
set_option maxRecDepth 100000 in
theorem tells_walk (w : World) (a : Option Addr) (n cap : Nat) (l : List (CV × TS)) (h : ChIn w a n cap l) :
    Calls Try.prog 9 #[.slice a n cap] w fun e w' => e = .returned (.bool true) ∧ Fr [] w w' := by
  have hmx := h.row.max
  have hln : (l.map (·.1)).length = n := by rw [List.length_map, h.len]
  have hE := encode_walk w a n cap l h
  obtain ⟨S, E, hSE⟩ : ∃ S E, encode (l.map (·.1)) = (S, E) := ⟨_, _, rfl⟩
  rw [hSE] at hE
  have HE := hid hE
  have HH := hid h
  clear hE h
  by_cases hn : n = 0 ∨ 16 < n
  · have h1 := enc_many (l := l.map (·.1)) (by rw [hln]; cases hb : inB (n : Int) 1 16; rfl; have := inB_iff.1 hb; omega)
    rw [h1] at hSE
    simp only [Prod.mk.injEq] at hSE
    obtain ⟨rfl, rfl⟩ := hSE
    rcases hn with rfl | hn
    · go_enter Try.func9, Try.ntmps9
      go_wp2_with (first
        | (go_at_call 15; refine HE.out.mono ?_; rintro e w1 ⟨rfl, hF⟩; have hF := hid hF)
        | (go_at_call 14; refine (fixed_walk _).mono ?_; rintro e w2 ⟨rfl, hF2⟩))
      go_ret
      exact ⟨rfl, hF.out.trans hF2⟩
    · have hn0 : ((n : Int) == 0) = false := by rw [beq_eq_false_iff_ne]; omega
      have hn1 : (16 : Int) < n := by omega
      go_enter Try.func9, Try.ntmps9
      go_wp2_with (first
        | (go_at_call 15; refine HE.out.mono ?_; rintro e w1 ⟨rfl, hF⟩; have hF := hid hF)
        | (go_at_call 14; refine (fixed_walk _).mono ?_; rintro e w2 ⟨rfl, hF2⟩))
      go_ret
      exact ⟨rfl, hF.out.trans hF2⟩
  · have hi : inB ((l.map (·.1)).length : Int) 1 16 = true := by rw [hln]; exact inB_iff.2 (by omega)
    have hn0 : ((n : Int) == 0) = false := by rw [beq_eq_false_iff_ne]; omega
    have hn1 : (n : Int) ≤ 16 := by omega
    have HI := hid hi
    have HSE := hid hSE
    have HLN := hid hln
    clear hi hSE hln hn
    go_enter Try.func9, Try.ntmps9
    go_wp2_with (go_at_call 15; refine HE.out.mono ?_; rintro e w1 ⟨rfl, hF⟩; have hF := hid hF)
    go_loopw [5] (fun iv wr => ∃ k : Nat, k ≤ n ∧ iv = .int .i64 k ∧ (∀ j d, j < k → (l.map (·.1))[j]? = some d → d.check = 0) ∧ Fr [] w wr) (fun iv _ => n - (intOf iv).toNat)
    case atStart => exact ⟨0, Nat.zero_le _, rfl, fun j d hj => absurd hj (Nat.not_lt_zero _), hF.out⟩
    case round =>
      obtain ⟨k, hk, rfl, hall, hFr⟩ := hrel
      by_cases hlt : k < n
      · obtain ⟨bb, ob, rfl⟩ := HH.out.row.sm (by omega)
        obtain ⟨x, hx⟩ : ∃ x, cL.nth l k = x := ⟨_, rfl⟩
        have hkl : k < l.length := by rw [HH.out.len]; exact hlt
        have hget : (l.map (·.1))[k]? = some x.1 := by rw [List.getElem?_map, show l[k]? = some x by rw [← hx]; exact cL.nth_get hkl]; rfl
        obtain ⟨c0, c1, c2, c3, c4, c5, c6, c7, c8, c9⟩ := ch_cells (HH.out.row.fr0 hFr) k hlt x hx
        have hone := HH.out.one x (by rw [← hx]; exact cL.mem_nth hkl)
        have hcw := check_walk wr x.1 x.2 (hone.1.fr0 hFr)
        have hv := check_vals x.1
        obtain ⟨y, hy⟩ : ∃ y, x.1.check = y := ⟨_, rfl⟩
        rw [hy] at hcw hv
        have HO := hid (And.intro hget (And.intro hall (And.intro hFr hy)))
        have hcw := hid hcw
        clear hx hget hall hFr hy hone hkl
        by_cases hy0 : y = 0
        · subst hy0
          clear hv
          go_wp2_with (go_at_call 11; refine hcw.out.mono ?_; rintro e w2 ⟨rfl, hF2⟩; have hF2 := hid hF2)
          go_roundw
          case rel =>
            refine ⟨k + 1, by omega, by go_num, fun j d hj hd => ?_, HO.out.2.2.1.trans hF2.out⟩
            by_cases hjk : j = k
            · subst hjk; rw [HO.out.1] at hd; cases hd; exact HO.out.2.2.2
            · exact HO.out.2.1 j d (by omega) hd
          case measure => simp [intOf]; omega
        · have h1 := enc_bad HI.out HO.out.1 HO.out.2.1 (by rw [HO.out.2.2.2]; exact hy0)
          rw [HSE.out, HO.out.2.2.2] at h1
          simp only [Prod.mk.injEq] at h1
          obtain ⟨rfl, rfl⟩ := h1
          rcases hv with ⟨rfl, hv | hv⟩ | ⟨rfl, hv1, hv2⟩ | ⟨h0, _⟩
          · clear hy0
            go_wp2_with (first
              | (go_at_call 11; refine hcw.out.mono ?_; rintro e w2 ⟨rfl, hF2⟩; have e0 := hF2.cell0 c0; have hF2 := hid hF2)
              | (go_at_call 14; refine (fixed_walk _).mono ?_; rintro e w3 ⟨rfl, hF3⟩))
            go_ret
            exact ⟨rfl, (HO.out.2.2.1.trans hF2.out).trans hF3⟩
          · have hv1 : 1 ≤ x.1.kind := by omega
            clear hy0
            go_wp2_with (first
              | (go_at_call 11; refine hcw.out.mono ?_; rintro e w2 ⟨rfl, hF2⟩; have e0 := hF2.cell0 c0; have hF2 := hid hF2)
              | (go_at_call 14; refine (fixed_walk _).mono ?_; rintro e w3 ⟨rfl, hF3⟩))
            go_ret
            exact ⟨rfl, (HO.out.2.2.1.trans hF2.out).trans hF3⟩
          · have hb1 : decide (x.1.kind < 1) = false := by rw [decide_eq_false_iff_not]; omega
            have hb2 : decide (6 < x.1.kind) = false := by rw [decide_eq_false_iff_not]; omega
            clear hy0 hv1 hv2
            go_wp2_with (first
              | (go_at_call 11; refine hcw.out.mono ?_; rintro e w2 ⟨rfl, hF2⟩; have e0 := hF2.cell0 c0; have hF2 := hid hF2)
              | (go_at_call 14; refine (fixed_walk _).mono ?_; rintro e w3 ⟨rfl, hF3⟩))
            go_ret
            exact ⟨rfl, (HO.out.2.2.1.trans hF2.out).trans hF3⟩
          · exact absurd h0 hy0
      · have hg := enc_good HI.out (fun j d hj hd => hall j d (by have := HLN.out; omega) hd)
        rw [HSE.out] at hg
        have HO := hid hFr
        clear hall hFr
        rcases hg with ⟨h1, h2⟩ | h1
        · simp only at h1 h2
          subst h1
          have hs : S.toList.isEmpty = false := by
            rw [ByteArray.toList_eq]
            cases hd : S.data.toList with
            | nil => have : S.data.toList.length = 0 := by rw [hd]; rfl
                     rw [sizeL] at this; omega
            | cons x l => rfl
          clear h2
          go_wp2_with (go_at_call 14; refine (fixed_walk _).mono ?_; rintro e w3 ⟨rfl, hF3⟩)
          go_ret
          exact ⟨rfl, HO.out.trans hF3⟩
        · simp only [Prod.mk.injEq] at h1
          obtain ⟨rfl, rfl⟩ := h1
          go_wp2_with (go_at_call 14; refine (fixed_walk _).mono ?_; rintro e w3 ⟨rfl, hF3⟩)
          go_ret
          exact ⟨rfl, HO.out.trans hF3⟩
theorem recordTells_walk (w : World) (a : Option Addr) (n cap : Nat) (l : List (CV × TS)) (h : ChArg w a n cap l) :
    Calls Try.prog 9 #[.slice a n cap] w fun e w' => e = .returned (.bool true) ∧ Fr [] w w' := tells_walk w a n cap l h.ch
end Go.Proofs.Ytdobbmlaokolmaa
