/-
  The walk of DiskRefuses.
-/
import Derived.Test.YtkkahkgjedgjnaaLasts
import Derived.Test.YtkkahkgjedgjnaaPlace04
namespace Go.Proofs.Ytkkahkgjedgjnaa
open Go.RowKit
set_option linter.unusedVariables false
set_option linter.unusedSimpArgs false

/-- A disk that is armed, behind k writes of its first sector. -/
theorem write_first {d : DS} (x : ByteArray) (hd : d.dead = false) (hn : 1 ≤ d.sec.length) (hx : x.size = 128) (ha : 2 ≤ d.armed) :
    d.write 0 x = (0, { d with armed := d.armed - 1, sec := d.sec.set 0 x, raw := d.raw ++ [(0, x)] }) := by
  unfold DS.write
  rw [hd, if_neg (by simp), if_neg (by omega), if_neg (by omega), if_neg (by omega)]
  simp; omega
theorem write_last {d : DS} (x : ByteArray) (hd : d.dead = false) (hn : 1 ≤ d.sec.length) (hx : x.size = 128) (ha : d.armed = 1) : (d.write 0 x).1 = 2 := by
  unfold DS.write
  rw [hd, if_neg (by simp), if_neg (by omega), if_neg (by omega), if_pos ha]

theorem cell_lt {w : World} {p : Addr} {v : Value} (hc : w.cell? p = some v) : p.block < w.heap.size := by
  rcases Nat.lt_or_ge p.block w.heap.size with h1 | h1
  · exact h1
  · simp [World.cell?, Array.getElem?_eq_none h1] at hc

theorem Dk.mem {w : World} {F : List Nat} {D : Nat} {d : DS} (h : Dk w F D d) : D ∈ F := by
  obtain ⟨S, cap, rv, cur, rfl, _⟩ := h; simp

/-- What lies below block B stays, whatever is written from B on. -/
theorem Fr.old {S : List Nat} {w w' : World} {B : Nat} (h : Fr S w w') (hS : ∀ x, x ∈ S → B ≤ x) {p : Addr} {v : Value} (hc : w.cell? p = some v) (hp : p.block < B) : w'.cell? p = some v :=
  h.cell hc (fun hx => by have := hS _ hx; omega)

set_option maxHeartbeats 6400000 in
set_option maxRecDepth 100000 in
theorem refuses_any (w : World) (a b : Option Addr) (na ca nb cb : Nat) (n bytes : Int) (m : Int) (hm1 : -9223372036854775808 ≤ m) (hm2 : m ≤ 9223372036854775807) (ss : List ByteArray) (ws : List (Int × ByteArray)) (hna : ss.length = na) (hnb : ws.length = nb) (ha : In w 1 a na ca (strV ss)) (hb : In w 2 b nb cb (wrV ws)) (hn : nb * 24 ≤ 140737488351232) :
    Calls Try.prog 12 #[.agg #[.slice a na ca, .slice b nb cb, .int .i64 n, .int .i64 bytes], .int .i64 m] w fun e w' => e = .returned (.bool true) ∧ Fr [] w w' := by
  subst hna hnb
  have hma := ha.max
  have hmb := hb.max
  have ha1 := ha.fr0 ((Fr.refl [] w).alloc (.cells #[.slice a ss.length ca, .slice b ws.length cb, .int .i64 n, .int .i64 bytes] 49))
  have hb1 := hb.fr0 ((Fr.refl [] w).alloc (.cells #[.slice a ss.length ca, .slice b ws.length cb, .int .i64 n, .int .i64 bytes] 49))
  have hC : (w.alloc (.cells #[.slice a ss.length ca, .slice b ws.length cb, .int .i64 n, .int .i64 bytes] 49)).heap[w.heap.size]? = _ := blk_alloc_at _ _ _ rfl
  have hF0 := (Fr.refl [] w).alloc (.cells #[.slice a ss.length ca, .slice b ws.length cb, .int .i64 n, .int .i64 bytes] 49)
  have hHs : (w.alloc (.cells #[.slice a ss.length ca, .slice b ws.length cb, .int .i64 n, .int .i64 bytes] 49)).heap.size = w.heap.size + 1 := by simp
  have HA := hid ha1
  have HB := hid hb1
  clear ha hb ha1 hb1
  have HM := hid (made_any _ a b ca cb ss ws HA.out HB.out (by omega))
  go_enter Try.func12, Try.ntmps12
  go_wp2_with fail
  refine HM.out.mono ?_
  rintro e w1 ⟨hF, ⟨hbad, rfl⟩ | ⟨hok, D, F, rfl, hDk, hFs⟩⟩
  · have k0 : w1.cell? ⟨w.heap.size, 0, none⟩ = some (.slice a ss.length ca) := cell_blk (hF.keep hC (by simp)) rfl
    have HR := hid (ref_load_bad w1 a ca ss (HA.out.fr0 hF) hbad)
    have hcode := loadE_bad hbad
    have HF := hid (hF0.trans hF)
    clear hF hbad hC hF0 HM hHs
    generalize loadE ss = code at HR hcode
    rcases hcode with rfl | rfl
    all_goals
      go_wp2_with fail
      refine HR.out.mono ?_
      rintro e w2 ⟨rfl, rfl⟩
      go_wp2_with fail
      refine (fixed04 _).mono ?_
      rintro e w2 ⟨rfl, hF2⟩
      go_wp2_with fail
      go_ret
      exact ⟨rfl, HF.out.trans hF2⟩
  · rw [hHs] at hFs
    have hB1 := hF.keep hC (by simp)
    have hA1 := HA.out.fr0 hF
    have hs0 := hok.1
    obtain ⟨ba, oa, rfl⟩ := hA1.sm (by omega)
    have hba : ba < w.heap.size + 1 := by have := cell_lt (HA.out.cell ba oa rfl 0 (by omega)); rw [hHs] at this; exact this
    have k0 : w1.cell? ⟨w.heap.size, 0, none⟩ = some (.slice (some ⟨ba, oa, none⟩) ss.length ca) := cell_blk hB1 rfl
    have c1 := hA1.cell ba oa rfl 0 (by omega)
    rw [Nat.add_zero] at c1
    have hx128 := hok.2.2 0 (by omega)
    simp only [strV] at c1
    generalize sAt ss 0 = x at c1 hx128
    have hwf := runW_wf (of_wf hok) ws ws.length (Nat.le_refl _)
    have hlive := runW_live ss ws ws.length (Nat.le_refl _)
    have hlen := runW_len (DS.of ss) ws ws.length (Nat.le_refl _)
    have hlen1 : (runW (DS.of ss) ws ws.length).sec.length = ss.length := hlen.1
    have hlen2 : (runW (DS.of ss) ws ws.length).raw.length ≤ 0 + ws.length := hlen.2
    generalize runW (DS.of ss) ws ws.length = d at hDk hwf hlive hlen1 hlen2
    have hq : 0 ≤ m % 3 := by omega
    have hq2 : m % 3 < 3 := by omega
    have harm : d.arm (1 + m % 3) 5 = (0, { d with armed := 1 + m % 3, bytes := 5 }) := by
      unfold DS.arm; rw [hlive.1, if_neg (by simp), if_neg (by omega)]
    have hwf1 := arm_wf hwf (1 + m % 3) 5 (by omega)
    rw [harm] at hwf1
    have HFF := hid (hF0.trans hF)
    have HX := hid (And.intro hDk (And.intro hwf (And.intro hlive (And.intro hlen1 hlen2))))
    have HY := hid (And.intro harm (And.intro hwf1 hFs))
    have HK := hid (And.intro k0 c1)
    have HP := hid (place04 m 3 w1 hm1 hm2 (by omega) (by omega))
    clear hok hHs hF hB1 hA1 hC hF0 HA HB HM hwf hlive hlen hlen1 hlen2 hDk harm hwf1 hFs c1
    go_wp2_with fail
    refine HP.out.mono ?_
    rintro e w2 ⟨rfl, rfl⟩
    go_wp2_with fail
    have hcall := disk_arm w1 F D d (1 + m % 3) 5 HX.out.1
    rw [HY.out.1] at hcall
    refine hcall.mono ?_
    clear hcall
    rintro e w2 ⟨rfl, hF2, hD2⟩
    have hDF : D ∈ F := by obtain ⟨S, cap, rv, cur, rfl, _⟩ := hD2; simp
    have hDs : ∀ x, x ∈ [D] → w.heap.size + 1 ≤ x := by intro x hx; simp at hx; subst hx; exact HY.out.2.2 _ hDF
    have k2 := hF2.old hDs HK.out.1 (Nat.lt_succ_self _)
    have c2 := hF2.old hDs HK.out.2 hba
    have HF2 := hid (HFF.out.step hF2 (fun x hx => .inr (by have := hDs x hx; omega)))
    have HD2 := hid hD2
    clear hF2 hD2 hDF hDs k0
    go_wp2_with fail
    refine (disk_sectors w2 F D _ HD2.out HY.out.2.1).mono ?_
    rintro e w3 ⟨v, rfl, hF3, hv⟩
    obtain ⟨g, cg, rfl, hg, hI3⟩ := newStrs_in hv
    have HI3 := hid hI3
    have HD3 := hid (HD2.out.keep hF3 (by simp))
    have k3 := hF3.cell0 k2
    have c3 := hF3.cell0 c2
    have HF3 := hid (HF2.out.trans hF3)
    clear hF3 hv hg hI3 k2 c2
    go_wp2_with fail
    refine (disk_raw w3 F D _ HD3.out (by have := HX.out.2.2.2.2; simp only []; omega)).mono ?_
    rintro e w4 ⟨ar, rfl, hF4, hI4, _⟩
    have HI4 := hid (And.intro (HI3.out.fr0 hF4) hI4)
    have HD4 := hid (HD3.out.keep hF4 (by simp))
    have k4 := hF4.cell0 k3
    have c4 := hF4.cell0 c3
    have HF4 := hid (HF3.out.trans hF4)
    clear hF4 hI4 k3 c3
    go_wp2_with fail
    refine (disk_size w4 F D _ HD4.out).mono ?_
    rintro e w5 ⟨rfl, rfl⟩
    have hdd : ({ d with armed := 1 + m % 3, bytes := 5 } : DS).dead = false := HX.out.2.2.1.1
    have hdl : ({ d with armed := 1 + m % 3, bytes := 5 } : DS).sec.length = ss.length := HX.out.2.2.2.1
    have HDD := hid (And.intro hdd hdl)
    have hxs : x.size = 128 := hx128
    clear hdd hdl hx128
    have HXS := hid hxs
    go_wp2_with fail
    refine (disk_write_no w4 F D _ (-1) x HD4.out 40 (.inr (.inl ⟨HDD.out.1, .inl (by omega), rfl⟩))).mono ?_
    rintro e w5 ⟨rfl, rfl⟩
    go_wp2_with fail
    refine (disk_write_no w4 F D _ _ x HD4.out 40 (.inr (.inl ⟨HDD.out.1, .inr (Int.le_refl _), rfl⟩))).mono ?_
    rintro e w5 ⟨rfl, rfl⟩
    go_wp2_with fail
    refine (disk_write_no w4 F D _ 0 _ HD4.out 41 (.inr (.inr ⟨HDD.out.1, by omega, by rw [HDD.out.2]; omega, by decide, rfl⟩))).mono ?_
    rintro e w5 ⟨rfl, rfl⟩
    go_wp2_with fail
    refine (disk_write_no w4 F D _ 0 _ HD4.out 41 (.inr (.inr ⟨HDD.out.1, by omega, by rw [HDD.out.2]; omega, ?_, rfl⟩))).mono ?_
    · rw [ByteArray.size_append, HXS.out]; decide
    rintro e w5 ⟨rfl, rfl⟩
    go_wp2_with fail
    refine (disk_arm_no w4 F D _ (-1) 0 HD4.out 1 (.inr ⟨HDD.out.1, .inl (by omega), rfl⟩)).mono ?_
    rintro e w5 ⟨rfl, rfl⟩
    go_wp2_with fail
    refine (disk_arm_no w4 F D _ 1 (-1) HD4.out 1 (.inr ⟨HDD.out.1, .inr (.inl (by omega)), rfl⟩)).mono ?_
    rintro e w5 ⟨rfl, rfl⟩
    go_wp2_with fail
    refine (disk_arm_no w4 F D _ 1 129 HD4.out 1 (.inr ⟨HDD.out.1, .inr (.inr (by omega)), rfl⟩)).mono ?_
    rintro e w5 ⟨rfl, rfl⟩
    clear hxs
    go_wp2_with fail
    refine (disk_sectors w4 F D _ HD4.out HY.out.2.1).mono ?_
    rintro e w5 ⟨v, rfl, hF5, hv⟩
    obtain ⟨g', cg', rfl, hg', hI5⟩ := newStrs_in hv
    have HI5 := hid (And.intro (HI4.out.1.fr0 hF5) (And.intro (HI4.out.2.fr0 hF5) hI5))
    have HD5 := hid (HD4.out.keep hF5 (by simp))
    have HF5 := hid (HF4.out.trans hF5)
    clear hF5 hv hg' hI5 k4 c4
    go_wp2_with fail
    refine (same_any w5 _ _ _ _ _ _ HI5.out.2.2 HI5.out.1).mono ?_
    rw [decide_eq_true rfl]
    rintro e w6 ⟨rfl, hF6⟩
    have HI6 := hid (HI5.out.2.1.fr0 hF6)
    have HD6 := hid (HD5.out.keep hF6 (by simp))
    have HF6 := hid (HF5.out.trans hF6)
    clear hF6
    go_wp2_with fail
    refine (disk_raw w6 F D _ HD6.out (by have := HX.out.2.2.2.2; simp only []; omega)).mono ?_
    rintro e w7 ⟨ar', rfl, hF7, hI7, _⟩
    have HI7 := hid (And.intro (HI6.out.fr0 hF7) hI7)
    have HD7 := hid (HD6.out.keep hF7 (by simp))
    have HF7 := hid (HF6.out.trans hF7)
    clear hF7 hI7
    go_wp2_with fail
    refine (sameRaw_any w7 _ _ _ _ _ _ HI7.out.2 HI7.out.1).mono ?_
    rw [decide_eq_true rfl]
    rintro e w8 ⟨rfl, hF8⟩
    have HD8 := hid (HD7.out.keep hF8 (by simp))
    have HF8 := hid (HF7.out.trans hF8)
    clear hF8
    go_wp2_with fail
    have hB8 : ∀ y, y ∈ F → w.heap.size + 1 ≤ y := HY.out.2.2
    have hw8 := HY.out.2.1
    have hr8 := HX.out.2.2.2.2
    go_loopw [12] (fun i wr => ∃ (j : Int) (F' : List Nat) (dj : DS), i = .int .i64 (j + 1) ∧ 0 ≤ j ∧ j ≤ m % 3 ∧ Fr [] w wr ∧ Dk wr F' D dj ∧ (∀ y, y ∈ F' → w.heap.size + 1 ≤ y) ∧ dj.wf ∧ dj.dead = false ∧ dj.sec.length = ss.length ∧ dj.armed = 1 + m % 3 - j ∧ (dj.raw.length : Int) ≤ ws.length + j) (fun i _ => (4 - intOf i).toNat)
    case atStart => exact ⟨0, F, _, rfl, by omega, by omega, HF8.out, HD8.out, hB8, hw8, HDD.out.1, HDD.out.2, by simp only []; omega, by simp only []; omega⟩
    case round =>
      clear hB8 hw8 hr8
      obtain ⟨j, F', dj, rfl, hj0, hj1, hFr, hDj, hBj, hwj, hdj, hlj, haj, hrj⟩ := hrel
      by_cases hlt : j < m % 3
      · have hcall := disk_write wr F' D dj 0 x hDj hwj (by omega)
        have hwf' := write_wf hwj 0 x
        rw [write_first x hdj (by omega) HXS.out (by omega)] at hcall hwf'
        have hsz : w.heap.size + 1 ≤ wr.heap.size := by have h1 := hDj.lt D hDj.mem; have h2 := hBj D hDj.mem; omega
        have HC := hid (And.intro hcall (And.intro hwf' (And.intro hFr hBj)))
        have HJ := hid (And.intro hdj (And.intro hlj (And.intro haj hrj)))
        clear hcall hwf' hFr hDj hBj hwj hdj hlj haj hrj
        go_wp2_with fail
        refine HC.out.1.mono ?_
        rintro e w9 ⟨rfl, hF9, F9, hD9, hB9⟩
        have HZ := hid (And.intro hF9 (And.intro hD9 hB9))
        clear hF9 hD9 hB9
        go_wp2_with fail
        go_roundw
        case rel =>
          obtain ⟨z1, z2, z3⟩ := HZ.out
          obtain ⟨y1, y2, y3, y4⟩ := HJ.out
          obtain ⟨x1, x2, x3, x4⟩ := HC.out
          have z0 := x3.size
          refine ⟨j + 1, F9, _, rfl, by omega, by omega, x3.step z1 (fun q hq => .inr (by have := x4 q hq; omega)), z2, fun q hq => ?_, x2, y1, by simpa using y2, by simp only []; omega, by simp only [List.length_append, List.length_singleton]; omega⟩
          rcases z3 q hq with h1 | h1
          · exact x4 q h1
          · omega
        case measure => simp [intOf]; omega
      · obtain rfl : j = m % 3 := by omega
        have hcall := disk_write wr F' D dj 0 x hDj hwj (by omega)
        rw [write_last x hdj (by omega) HXS.out (by omega)] at hcall
        have HC := hid (And.intro hcall (And.intro hFr hBj))
        clear hcall hFr hDj hBj hwj hdj hlj haj hrj
        go_wp2_with fail
        refine HC.out.1.mono ?_
        rintro e w9 ⟨rfl, hF9, F9, hD9, hB9⟩
        have HZ := hid hF9
        clear hF9 hD9 hB9
        go_wp2_with fail
        refine (fixed04 _).mono ?_
        rintro e w10 ⟨rfl, hF10⟩
        have HZ2 := hid hF10
        clear hF10
        go_wp2_with fail
        go_ret
        exact ⟨rfl, (HC.out.2.1.step HZ.out (fun q hq => .inr (by have := HC.out.2.2 q hq; omega))).trans HZ2.out⟩

end Go.Proofs.Ytkkahkgjedgjnaa
