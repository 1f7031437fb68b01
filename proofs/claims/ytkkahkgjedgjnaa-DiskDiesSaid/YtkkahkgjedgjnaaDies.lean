/-
  The walk of DiskDies.
-/
import Derived.Test.YtkkahkgjedgjnaaRefuses
import Derived.Test.YtkkahkgjedgjnaaIn
namespace Go.Proofs.Ytkkahkgjedgjnaa
open Go.RowKit
set_option linter.unusedVariables false
set_option linter.unusedSimpArgs false

theorem cutB_zero (new old : ByteArray) : cutB new old 0 = old := by
  have e : (cutB new old 0).data.toList = old.data.toList := by
    unfold cutB
    rw [ByteArray.data_append, Array.toList_append, toList_extract, toList_extract]
    simp
    rw [List.take_of_length_le (by show old.data.toList.length ≤ old.size; exact Nat.le_refl _)]
  cases old; cases h : cutB new _ 0; simp_all

theorem set_self (l : List ByteArray) : l.set 0 (sAt l 0) = l := by
  cases l <;> simp [sAt, List.getD]

/-- The disk that is armed at once and written to: it is dead, and has what it had. -/
def deadD (ss : List ByteArray) : DS := ⟨ss, [], 1, 0, true⟩
theorem dies_arm {ss : List ByteArray} : (DS.of ss).arm 1 0 = (0, ⟨ss, [], 1, 0, false⟩) := by
  unfold DS.arm DS.of; simp
theorem dies_write {ss : List ByteArray} (h : okSecs ss) : (⟨ss, [], 1, 0, false⟩ : DS).write 0 (sAt ss 0) = (2, deadD ss) := by
  have h1 := h.1
  unfold DS.write deadD
  rw [if_neg (by simp), if_neg (by simp only []; omega), if_neg (by have := h.2.2 0 (by omega); omega), if_pos rfl]
  simp only [Int.toNat_zero, cutB_zero, set_self]
theorem armed_wf {ss : List ByteArray} (h : okSecs ss) (dd : Bool) : (⟨ss, [], 1, 0, dd⟩ : DS).wf := ⟨h.1, h.2.1, h.2.2, by simp, by simp, by simp, by simp⟩

theorem revived_write {ss : List ByteArray} (h : okSecs ss) : ((deadD ss).revive.write 0 (sAt ss 0)).1 = 0 := by
  have h1 := h.1
  unfold DS.write deadD DS.revive
  rw [if_neg (by simp), if_neg (by simp only []; omega), if_neg (by have := h.2.2 0 (by omega); omega), if_neg (by simp)]

set_option maxHeartbeats 6400000 in
set_option maxRecDepth 100000 in
theorem dies_any (w : World) (a b : Option Addr) (na ca nb cb : Nat) (n bytes : Int) (ss : List ByteArray) (hna : ss.length = na) (ha : In w 1 a na ca (strV ss))
    (s : Option Addr) (ns cs : Nat) (U : Nat → Value) (hT : SlIn w 5 48 s ns cs U) (hq0 : ∀ i, i < ns → I64 (U (i * 5))) (hq1 : ∀ i, i < ns → I64 (U (i * 5 + 1))) (hq2 : ∀ i, i < ns → I64 (U (i * 5 + 2))) (hq3 : ∀ i, i < ns → I64 (U (i * 5 + 3))) (hq4 : ∀ i, i < ns → Str (U (i * 5 + 4))) :
    Calls Try.prog 13 #[.agg #[.slice a na ca, .slice b nb cb, .int .i64 n, .int .i64 bytes], .slice s ns cs] w fun e w' => e = .returned (.bool true) ∧ Fr [] w w' := by
  subst hna
  have hma := ha.max
  have hms := hT.mx
  have hls := hT.le
  have ha1 := ha.fr0 ((Fr.refl [] w).alloc (.cells #[.slice a ss.length ca, .slice b nb cb, .int .i64 n, .int .i64 bytes] 49))
  have hT1 := hT.fr ((Fr.refl [] w).alloc (.cells #[.slice a ss.length ca, .slice b nb cb, .int .i64 n, .int .i64 bytes] 49))
  have hC : (w.alloc (.cells #[.slice a ss.length ca, .slice b nb cb, .int .i64 n, .int .i64 bytes] 49)).heap[w.heap.size]? = _ := blk_alloc_at _ _ _ rfl
  have hF0 := (Fr.refl [] w).alloc (.cells #[.slice a ss.length ca, .slice b nb cb, .int .i64 n, .int .i64 bytes] 49)
  have hHs : (w.alloc (.cells #[.slice a ss.length ca, .slice b nb cb, .int .i64 n, .int .i64 bytes] 49)).heap.size = w.heap.size + 1 := by simp
  have HA := hid ha1
  have HT := hid (And.intro hT1 hT)
  clear ha hT ha1 hT1
  have HQ := hid (And.intro hq0 (And.intro hq1 (And.intro hq2 (And.intro hq3 hq4))))
  clear hq0 hq1 hq2 hq3 hq4
  have HM := hid (made_any _ a none ca 0 ss [] HA.out ⟨Nat.le_refl _, by decide, fun h => absurd h (Nat.lt_irrefl _), fun b off e => by simp at e⟩ (by simp))
  go_enter Try.func13, Try.ntmps13
  go_wp2_with fail
  refine HM.out.mono ?_
  rintro e w1 ⟨hF, ⟨hbad, rfl⟩ | ⟨hok, D, F, rfl, hDk, hFs⟩⟩
  · have k0 : w1.cell? ⟨w.heap.size, 0, none⟩ = some (.slice a ss.length ca) := cell_blk (hF.keep hC (by simp)) rfl
    have HR := hid (ref_load_bad w1 a ca ss (HA.out.fr0 hF) hbad)
    have hcode := loadE_bad hbad
    have HF := hid (hF0.trans hF)
    clear hF hbad hC hF0 HM hHs
    generalize loadE ss = code at HR hcode
    rcases hcode with rfl | rfl
    all_goals
      go_wp2_with fail
      refine HR.out.mono ?_
      rintro e w2 ⟨rfl, rfl⟩
      go_wp2_with fail
      refine (fixed04 _).mono ?_
      rintro e w2 ⟨rfl, hF2⟩
      go_wp2_with fail
      go_ret
      exact ⟨rfl, HF.out.trans hF2⟩
  · rw [hHs] at hFs
    have hB1 := hF.keep hC (by simp)
    have hA1 := HA.out.fr0 hF
    have hs0 := hok.1
    obtain ⟨ba, oa, rfl⟩ := hA1.sm (by omega)
    have hba : ba < w.heap.size + 1 := by have := cell_lt (HA.out.cell ba oa rfl 0 (by omega)); rw [hHs] at this; exact this
    have hbs : ∀ bb oo, s = some ⟨bb, oo, none⟩ → 0 < ns → bb < w.heap.size + 1 := fun bb oo e hp => by
      have := cell_lt (HT.out.1.cell bb oo e 0 (by omega)); rw [hHs] at this; exact this
    have k0 : w1.cell? ⟨w.heap.size, 0, none⟩ = some (.slice (some ⟨ba, oa, none⟩) ss.length ca) := cell_blk hB1 rfl
    have c1 := hA1.cell ba oa rfl 0 (by omega)
    rw [Nat.add_zero] at c1
    simp only [strV] at c1
    have hDk' : Dk w1 F D (DS.of ss) := hDk
    have HFF := hid (hF0.trans hF)
    have HT1 := hid (And.intro (HT.out.1.fr hF) (And.intro hA1 hbs))
    have HX := hid (And.intro hDk' (And.intro hok hFs))
    clear hok hHs hF hB1 hA1 hC hF0 HA HT HM hDk hDk' hFs hbs
    go_wp2_with fail
    have hcall := disk_arm w1 F D _ 1 0 HX.out.1
    rw [dies_arm] at hcall
    refine hcall.mono ?_
    clear hcall
    rintro e w2 ⟨rfl, hF2, hD2⟩
    have hDs : ∀ x, x ∈ [D] → w.heap.size + 1 ≤ x := by intro x hx; simp at hx; subst hx; exact HX.out.2.2 _ hD2.mem
    have k2 := hF2.old hDs k0 (Nat.lt_succ_self _)
    have c2 := hF2.old hDs c1 hba
    have HF2 := hid (And.intro (HFF.out.step hF2 (fun x hx => .inr (by have := hDs x hx; omega))) (And.intro hF2 hDs))
    have HD2 := hid hD2
    clear hF2 hD2 hDs k0 c1
    go_wp2_with fail
    have hcall := disk_write w2 F D _ 0 (sAt ss 0) HD2.out (armed_wf HX.out.2.1 _) (by simp)
    rw [dies_write HX.out.2.1] at hcall
    refine hcall.mono ?_
    clear hcall
    rintro e w3 ⟨rfl, hF3, F3, hD3, hB3⟩
    have hFs := HX.out.2.2
    have k3 := hF3.old hFs k2 (Nat.lt_succ_self _)
    have c3 := hF3.old hFs c2 hba
    have hsz : w.heap.size + 1 ≤ w2.heap.size := by have h1 := HD2.out.lt D HD2.out.mem; have h2 := hFs D HD2.out.mem; omega
    have hB3' : ∀ x, x ∈ F3 → w.heap.size + 1 ≤ x := fun x hx => by rcases hB3 x hx with h1 | h1; exact hFs x h1; omega
    have hA3 := (HT1.out.2.1.fr HF2.out.2.1 (fun b off e hb => by simp at e; have := HF2.out.2.2 _ hb; omega)).fr hF3 (fun b off e hb => by simp at e; have := hFs _ hb; omega)
    have hS3 : ∀ bb oo, s = some ⟨bb, oo, none⟩ → ∀ j, j < ns * 5 → w3.cell? ⟨bb, oo + j, none⟩ = some (U j) := fun bb oo e j hj => by
      have hlt := HT1.out.2.2 bb oo e (by omega)
      exact hF3.old hFs (HF2.out.2.1.old HF2.out.2.2 (HT1.out.1.cell bb oo e j hj) hlt) hlt
    have HS := hid (And.intro HT1.out.1.sm hS3)
    have HF3 := hid (HF2.out.1.step hF3 (fun x hx => .inr (by have := hFs x hx; omega)))
    have HD3 := hid (And.intro hD3 (And.intro hB3' hA3))
    clear hF3 hD3 hB3 hB3' hA3 hS3 hFs k2 c2 HD2 HF2 HT1
    go_wp2_with fail
    go_loopw [8] (fun i wr => ∃ (k : Nat), k ≤ ns ∧ i = .int .i64 k ∧ Fr [] w3 wr) (fun i _ => ns - (intOf i).toNat)
    case atStart => exact ⟨0, Nat.zero_le _, rfl, Fr.refl _ _⟩
    case round =>
      obtain ⟨k, hk, rfl, hFw⟩ := hrel
      by_cases hlt : k < ns
      · obtain ⟨bb, ob, rfl⟩ := HS.out.1 (by omega)
        have d0 := hFw.cell0 (HS.out.2 bb ob rfl (k * 5) (by omega))
        have d1 := hFw.cell0 (HS.out.2 bb ob rfl (k * 5 + 1) (by omega))
        have d2 := hFw.cell0 (HS.out.2 bb ob rfl (k * 5 + 2) (by omega))
        have d3 := hFw.cell0 (HS.out.2 bb ob rfl (k * 5 + 3) (by omega))
        have d4 := hFw.cell0 (HS.out.2 bb ob rfl (k * 5 + 4) (by omega))
        obtain ⟨o0, e0, _, _⟩ := HQ.out.1 k hlt
        obtain ⟨o1, e1, _, _⟩ := HQ.out.2.1 k hlt
        obtain ⟨o2, e2, _, _⟩ := HQ.out.2.2.1 k hlt
        obtain ⟨o3, e3, _, _⟩ := HQ.out.2.2.2.1 k hlt
        obtain ⟨o4, e4, _⟩ := HQ.out.2.2.2.2 k hlt
        rw [e0] at d0
        rw [e1, ← Nat.add_assoc] at d1
        rw [e2, ← Nat.add_assoc] at d2
        rw [e3, ← Nat.add_assoc] at d3
        rw [e4, ← Nat.add_assoc] at d4
        clear e0 e1 e2 e3 e4
        have HDx := hid (fun o => (HD3.out.1.keep (hFw.alloc o) (by simp)))
        go_wp2_with fail
        refine (disk_read_no _ F3 D _ o2 (HDx.out _) 2 (.inl ⟨rfl, rfl⟩)).mono ?_
        rintro e w4 ⟨rfl, rfl⟩
        go_wp2_with fail
        refine (disk_write_no _ F3 D _ o2 o4 (HDx.out _) 2 (.inl ⟨rfl, rfl⟩)).mono ?_
        rintro e w4 ⟨rfl, rfl⟩
        go_wp2_with fail
        refine (disk_arm_no _ F3 D _ o2 o3 (HDx.out _) 2 (.inl ⟨rfl, rfl⟩)).mono ?_
        rintro e w4 ⟨rfl, rfl⟩
        go_wp2_with fail
        refine (disk_dead _ F3 D _ (HDx.out _)).mono ?_
        rintro e w4 ⟨rfl, rfl⟩
        have hdd : (deadD ss).dead = true := rfl
        go_wp2_with fail
        go_roundw
        case rel => exact ⟨k + 1, by omega, by go_num, hFw.alloc _⟩
        case measure => simp [intOf]; omega
      · have k4 := hFw.cell0 k3
        have c4 := hFw.cell0 c3
        have hD4' : Dk wr F3 D (deadD ss) := HD3.out.1.keep hFw (by simp)
        have hD4 : Dk wr.drew F3 D (deadD ss) := hD4'
        have hA4 := HD3.out.2.2.fr0 hFw
        have HF4 := hid (And.intro hFw (And.intro hD4 hA4))
        clear hFw hD4 hD4' hA4 k3 c3
        go_wp2_with fail
        have HSec := hid (disk_sectors wr.drew F3 D _ HF4.out.2.1 (armed_wf HX.out.2.1 true))
        have HSame : ∀ (w5 : World) (g : Addr) (cg : Nat), In w5 1 (some g) ss.length cg (strV ss) → Fr [] wr.drew w5 → Calls Try.prog 37 #[.slice (some g) (deadD ss).sec.length cg, .slice (some ⟨ba, oa, none⟩) ss.length ca] w5 fun e w' => e = .returned (.bool true) ∧ Fr [] w5 w' :=
          fun w5 g cg h1 h2 => (same_any w5 (some g) (some ⟨ba, oa, none⟩) cg ca ss ss h1 (HF4.out.2.2.fr0 ((Fr.refl [] wr).drew.trans h2))).mono fun e w' ⟨h, k⟩ => ⟨h.trans (by simp), k⟩
        have HRaw : ∀ (w5 : World), Fr [] wr.drew w5 → Calls Try.prog 36 #[.pointer (some ⟨D, 0, none⟩)] w5 fun e w' => ∃ a, e = .returned (.slice a 0 0) ∧ Fr [] w5 w' :=
          fun w5 h2 => (disk_raw w5 F3 D _ (HF4.out.2.1.keep h2 (by simp)) (by simp [deadD])).mono fun e w' ⟨a, h, k, _⟩ => ⟨a, h, k⟩
        have HSame := hid HSame
        have HRaw := hid HRaw
        go_region_with (first
          | (go_at_call 35; refine HSec.out.mono ?_; rintro e w5 ⟨v, rfl, hF5, hv⟩; obtain ⟨g, cg, rfl, hg, hI5⟩ := newStrs_in hv; have HI5 := hid (And.intro hI5 hF5); have k5 := hF5.cell0 (w := wr.drew) k4; clear hv hg hI5 hF5)
          | (go_at_call 37; refine (HSame.out _ _ _ HI5.out.1 HI5.out.2).mono ?_; rintro e w6 ⟨rfl, hF6⟩; have HF6 := hid (HI5.out.2.trans hF6); clear hF6)
          | (go_at_call 36; refine (HRaw.out _ HF6.out).mono ?_; rintro e w7 ⟨ar, rfl, hF7⟩; have HF7 := hid (HF6.out.trans hF7); clear hF7))
        all_goals
          have k7 := HF7.out.cell0 (w := wr.drew) k4
          have c7 := HF7.out.cell0 (w := wr.drew) c4
          have hFr7 : Fr [] wr w7 := (Fr.refl [] wr).drew.trans HF7.out
          have hD7 := HF4.out.2.1.keep HF7.out (by simp)
          have hA7 := HF4.out.2.2.fr0 hFr7
          have hW7 := HF3.out.trans (HF4.out.1.trans hFr7)
          have HF8 := hid (And.intro hD7 (And.intro hA7 hW7))
          clear hD7 hA7 hW7 hFr7 HSame HRaw HSec HI5 HF6 HF7
          go_wp2_with fail
          refine (disk_revive w7 F3 D _ HF8.out.1).mono ?_
          rintro e w8 ⟨rfl, hF8, hD8⟩
          have hDs : ∀ x, x ∈ [D] → w.heap.size + 1 ≤ x := by intro x hx; simp at hx; subst hx; exact HD3.out.2.1 _ hD8.mem
          have k8 := hF8.old hDs k7 (Nat.lt_succ_self _)
          have c8 := hF8.old hDs c7 hba
          have HF9 := hid (And.intro hD8 (And.intro (HF8.out.2.1.fr hF8 (fun b off e hb => by simp at e; have := hDs _ hb; omega)) (HF8.out.2.2.step hF8 (fun x hx => .inr (by have := hDs x hx; omega)))))
          clear hF8 hD8 k7 c7 hDs HF8
          have HDead := hid (disk_dead w8.drew F3 D _ (HF9.out.1.keep ((Fr.refl [] w8).drew) (by simp)))
          have hdd2 : ((deadD ss).revive).dead = false := rfl
          have HSec := hid (disk_sectors w8.drew F3 D _ (HF9.out.1.keep ((Fr.refl [] w8).drew) (by simp)) (of_wf HX.out.2.1))
          have HSame : ∀ (w5 : World) (g : Addr) (cg : Nat), In w5 1 (some g) ss.length cg (strV ss) → Fr [] w8.drew w5 → Calls Try.prog 37 #[.slice (some g) (deadD ss).revive.sec.length cg, .slice (some ⟨ba, oa, none⟩) ss.length ca] w5 fun e w' => e = .returned (.bool true) ∧ Fr [] w5 w' :=
            fun w5 g cg h1 h2 => (same_any w5 (some g) (some ⟨ba, oa, none⟩) cg ca ss ss h1 (HF9.out.2.1.fr0 ((Fr.refl [] w8).drew.trans h2))).mono fun e w' ⟨h, k⟩ => ⟨h.trans (by simp), k⟩
          have HWr : ∀ (w5 : World), Fr [] w8.drew w5 → Calls Try.prog 34 #[.pointer (some ⟨D, 0, none⟩), .int .i64 0, .string (sAt ss 0)] w5 fun e w' => e = .returned (.int .i64 0) ∧ Fr [] w w' := by
            intro w5 h2
            have h3 := disk_write w5 F3 D _ 0 (sAt ss 0) (HF9.out.1.keep ((Fr.refl [] w8).drew.trans h2) (by simp)) (of_wf HX.out.2.1) (by show (0 + 1) * 24 ≤ _; omega)
            refine h3.mono ?_
            rintro e w' ⟨h4, h5, _⟩
            refine ⟨h4.trans (by rw [revived_write HX.out.2.1]), (HF9.out.2.2.trans ((Fr.refl [] w8).drew.trans h2)).step h5 (fun x hx => .inr (by have := HD3.out.2.1 x hx; omega))⟩
          have HSame := hid HSame
          have HWr := hid HWr
          go_wp2_with fail
          go_region_with (first
            | (go_at_call 31; refine HDead.out.mono ?_; rintro e w9 ⟨rfl, rfl⟩)
            | (go_at_call 35; refine HSec.out.mono ?_; rintro e w5 ⟨v, rfl, hF5, hv⟩; obtain ⟨g, cg, rfl, hg, hI5⟩ := newStrs_in hv; have HI5 := hid (And.intro hI5 hF5); have k5 := hF5.cell0 (w := w8.drew) k8; have c5 := hF5.cell0 (w := w8.drew) c8; clear hv hg hI5 hF5)
            | (go_at_call 37; refine (HSame.out _ _ _ HI5.out.1 HI5.out.2).mono ?_; rintro e w6 ⟨rfl, hF6⟩; have k6 := hF6.cell0 k5; have c6 := hF6.cell0 c5; have HF6 := hid (HI5.out.2.trans hF6); clear hF6)
            | (go_at_call 34; refine (HWr.out _ HF6.out).mono ?_; rintro e w9 ⟨rfl, hF9⟩; have HF9' := hid hF9; clear hF9)
            | (go_at_call 28; refine (fixed04 _).mono ?_; rintro e w10 ⟨rfl, hF10⟩; have HF10 := hid (HF9'.out.trans hF10); clear hF10))
          all_goals
            go_wp2_with fail
            go_ret
            exact ⟨rfl, HF10.out⟩

end Go.Proofs.Ytkkahkgjedgjnaa
