/-
  The walk of DiskKeeps.
-/
import Derived.Test.YtkkahkgjedgjnaaCopy
import Derived.Test.YtkkahkgjedgjnaaRefuses
namespace Go.Proofs.Ytkkahkgjedgjnaa
open Go.RowKit
set_option linter.unusedVariables false
set_option linter.unusedSimpArgs false

theorem ref_new_bad (w : World) (n : Int) (h : n < 1 ∨ 1026 < n) :
    Calls Try.prog 33 #[.int .i64 n] w fun e w' => e = .returned (.tuple #[.pointer none, .int .i64 40]) ∧ w = w' := by
  rcases h with h | h
  · go_enter Try.func33, Try.ntmps33
    go_wp2
    go_ret2
    exact ⟨rfl, rfl⟩
  · have h1 : ¬ n < 1 := by omega
    go_enter Try.func33, Try.ntmps33
    go_wp2
    go_ret2
    exact ⟨rfl, rfl⟩

theorem owns_lt2 {w : World} {B e size n cap g : Nat} {xs : List Value} (h : w.ownsRow B e size (.slice (some ⟨g, 0, none⟩) n cap) n xs) : g < w.heap.size := owns_lt h g (by simp [Value.ownBlock])

theorem owns_cell {w : World} {B e size n cap g : Nat} {xs : List Value} (h : w.ownsRow B e size (.slice (some ⟨g, 0, none⟩) n cap) n xs) (j : Nat) (hj : j < n * size) : (∃ u, w.cell? ⟨g, j, none⟩ = some u) ∧ w.frozen? ⟨g, j, none⟩ = false := by
  have hl := h.1
  have hW := owns_W h (fun j => xs.getD j (.bool false)) (fun j hj => by simp [List.getD, hl, hj])
  have h1 := hW.cell j hj
  have h2 := hW.free j
  rw [Nat.zero_add] at h1 h2
  exact ⟨⟨_, h1⟩, h2⟩

theorem owns_set {w : World} {B e size n cap g : Nat} {xs : List Value} (h : w.ownsRow B e size (.slice (some ⟨g, 0, none⟩) n cap) n xs) (j : Nat) (v : Value) : ∃ ys, (w.setCell ⟨g, j, none⟩ v).ownsRow B e size (.slice (some ⟨g, 0, none⟩) n cap) n ys := by
  obtain ⟨hl, h⟩ := h
  rcases h with ⟨h, _⟩ | ⟨g', cap', cur, hv, hb, hh, hle, hmx, hcs, htk⟩
  · simp at h
  · simp only [Value.slice.injEq, Option.some.injEq, Addr.mk.injEq, and_true, true_and] at hv
    obtain ⟨rfl, rfl⟩ := hv
    have hsz : n * size ≤ cur.size := by rw [hcs]; exact Nat.mul_le_mul_right _ hle
    exact ⟨_, by simp; omega, .inr ⟨g, cap, _, rfl, hb, blk_setCell_at v hh, hle, hmx, by simpa using hcs, rfl⟩⟩

theorem range_strs' (ss : List ByteArray) : List.map (strV ss) (List.range ss.length) = strs ss ss.length := rfl

theorem alloc_news (w : World) (l : List Value) (e : TypeId) : ∀ (j : Nat) (u : Value), l[j]? = some u → (w.alloc (.cells l.toArray e)).cell? ((⟨w.heap.size, 0, none⟩ : Addr).add j) = some u := by
  intro j u hu
  have e1 : (⟨w.heap.size, 0, none⟩ : Addr).add j = ⟨w.heap.size, j, none⟩ := by unfold Addr.add; by_cases hj : j = 0 <;> simp [hj]
  rw [e1]
  exact cell_blk (blk_alloc_at _ _ _ rfl) (by simpa using hu)

theorem same_self (w : World) (a b : Option Addr) (ca cb : Nat) (ss : List ByteArray) (ha : In w 1 a ss.length ca (strV ss)) (hb : In w 1 b ss.length cb (strV ss)) :
    Calls Try.prog 37 #[.slice a ss.length ca, .slice b ss.length cb] w fun e w' => e = .returned (.bool true) ∧ Fr [] w w' :=
  (same_any w a b ca cb ss ss ha hb).mono fun e w' ⟨h, k⟩ => ⟨h.trans (by simp), k⟩

theorem sameRaw_self (w : World) (a b : Option Addr) (ca cb : Nat) (ss : List (Int × ByteArray)) (ha : In w 2 a ss.length ca (wrV ss)) (hb : In w 2 b ss.length cb (wrV ss)) :
    Calls Try.prog 38 #[.slice a ss.length ca, .slice b ss.length cb] w fun e w' => e = .returned (.bool true) ∧ Fr [] w w' :=
  (sameRaw_any w a b ca cb ss ss ha hb).mono fun e w' ⟨h, k⟩ => ⟨h.trans (by simp), k⟩

/-- What Keeps' loop over the script leaves. -/
def KeepInv (w w' : World) (D nn k : Nat) : Prop := ∃ F d, Dk w' F D d ∧ d.wf ∧ d.raw.length ≤ k ∧ d.sec.length = nn ∧ (∀ x, x ∈ F → w.heap.size ≤ x) ∧ Fr [] w w'

set_option maxHeartbeats 6400000 in
set_option maxRecDepth 100000 in
theorem keeps_any (w : World) (n : Int) (n1 : -9223372036854775808 ≤ n) (n2 : n ≤ 9223372036854775807)
    (s : Option Addr) (ns cs : Nat) (U : Nat → Value) (hT : SlIn w 5 48 s ns cs U) (hq0 : ∀ i, i < ns → I64 (U (i * 5))) (hq1 : ∀ i, i < ns → I64 (U (i * 5 + 1))) (hq2 : ∀ i, i < ns → I64 (U (i * 5 + 2))) (hq3 : ∀ i, i < ns → I64 (U (i * 5 + 3))) (hq4 : ∀ i, i < ns → Str (U (i * 5 + 4))) :
    Calls Try.prog 8 #[.int .i64 n, .slice s ns cs] w fun e w' => e = .returned (.bool true) ∧ Fr [] w w' := by
  have hms := hT.mx
  have hls := hT.le
  have hrc := hT.rch
  by_cases hn : n < 1 ∨ 1026 < n
  · have HN := hid (disk_new_bad w n hn)
    have HM := hid (ref_new_bad w n hn)
    clear hn hT
    go_enter Try.func8, Try.ntmps8
    go_wp2_with fail
    refine HN.out.mono ?_
    rintro e w1 ⟨rfl, rfl⟩
    go_wp2_with fail
    refine HM.out.mono ?_
    rintro e w1 ⟨rfl, rfl⟩
    go_wp2_with fail
    refine (fixed04 _).mono ?_
    rintro e w2 ⟨rfl, hF2⟩
    go_wp2_with fail
    go_ret
    exact ⟨rfl, hF2⟩
  obtain ⟨nn, rfl⟩ : ∃ nn : Nat, n = nn := ⟨n.toNat, by omega⟩
  have hn1 : 1 ≤ nn := by omega
  have hn2 : nn ≤ 1026 := by omega
  have HN := hid (disk_new_ok w nn hn1 hn2)
  have HT := hid hT
  have HQ := hid (And.intro hq0 (And.intro hq1 (And.intro hq2 (And.intro hq3 hq4))))
  clear hq0 hq1 hq2 hq3 hq4 hT hn
  go_enter Try.func8, Try.ntmps8
  go_wp2_with fail
  refine HN.out.mono ?_
  rintro e w1 ⟨D, F1, rfl, hF1, hD1, hB1⟩
  have HK1 : Hid (KeepInv w w1 D nn 0) := hid ⟨F1, _, hD1, new_wf hn1 hn2, by simp [DS.new], by simp [DS.new], hB1, hF1⟩
  clear hF1 hD1 hB1 HN
  go_wp2_with fail
  go_loopw [9] (fun i wr => ∃ (k : Nat), k ≤ ns ∧ i = .int .i64 k ∧ KeepInv w wr D nn k) (fun i _ => ns - (intOf i).toNat)
  case atStart => exact ⟨0, Nat.zero_le _, rfl, HK1.out⟩
  case round =>
    obtain ⟨k, hk, rfl, hinv⟩ := hrel
    have HV := hid hinv
    clear HK1 hinv
    by_cases hlt : k < ns
    · obtain ⟨bb, ob, rfl⟩ := HT.out.sm (by omega)
      obtain ⟨F, d, hD, hwf, hraw, hsec, hB, hF⟩ := HV.out
      have d1 := hF.cell0 (HT.out.cell bb ob rfl (k * 5 + 1) (by omega))
      have d2 := hF.cell0 (HT.out.cell bb ob rfl (k * 5 + 2) (by omega))
      have d4 := hF.cell0 (HT.out.cell bb ob rfl (k * 5 + 4) (by omega))
      obtain ⟨o1, e1, _, _⟩ := HQ.out.2.1 k hlt
      obtain ⟨o2, e2, _, _⟩ := HQ.out.2.2.1 k hlt
      obtain ⟨o4, e4, _⟩ := HQ.out.2.2.2.2 k hlt
      rw [e1, ← Nat.add_assoc] at d1
      rw [e2, ← Nat.add_assoc] at d2
      rw [e4, ← Nat.add_assoc] at d4
      clear e1 e2 e4
      by_cases ho : o1 = 1
      · subst ho
        have hD' : Dk wr.drew F D d := hD
        have HW := hid (disk_write wr.drew F D d o2 o4 hD' hwf (by omega))
        have HZ := hid (And.intro (write_wf hwf o2 o4) (And.intro (write_len d o2 o4) (And.intro hraw (And.intro hsec (And.intro hB hF)))))
        clear hD hwf hraw hsec hB hF hD' HV
        go_wp2_with fail
        go_region_with (go_at_call 34; refine HW.out.mono ?_; rintro e w4 ⟨rfl, hF4, F', hD4, hB4⟩; have HX := hid (And.intro hF4 (And.intro hD4 hB4)); clear hF4 hD4 hB4)
        all_goals go_wp2_with fail
        all_goals
          refine ⟨?_, by simp [intOf]; omega⟩
          have hs1 : (d.write o2 o4).2.sec.length = d.sec.length := HZ.out.2.1.1
          have hs2 := HZ.out.2.1.2
          have hs3 := HZ.out.2.2.1
          have hFd := HZ.out.2.2.2.2.2
          have hBB := HZ.out.2.2.2.2.1
          refine ⟨k + 1, by omega, by go_num, F', _, HX.out.2.1, HZ.out.1, by omega, by rw [hs1]; exact HZ.out.2.2.2.1, fun x hx => ?_, ?_⟩
          · rcases HX.out.2.2 x hx with h | h
            · exact hBB x h
            · have := hFd.size; have h' : wr.heap.size ≤ x := h; omega
          · exact (hFd.drew).step HX.out.1 (fun x hx => .inr (hBB x hx))
      · have ho' : (o1 == 1) = false := by rw [beq_eq_false_iff_ne]; exact ho
        clear hD hwf hraw hsec hB hF
        go_wp2_with fail
        go_roundw
        case rel =>
          obtain ⟨F, d, hD, hwf, hraw, hsec, hB, hF⟩ := HV.out
          exact ⟨k + 1, by omega, by go_num, F, d, hD, hwf, by omega, hsec, hB, hF⟩
        case measure => simp [intOf]; omega
    · obtain ⟨F, d, hD, hwf, hraw, hsec, hB, hF⟩ := HV.out
      have HD0 := hid hD
      have HX := hid (And.intro hwf (And.intro hraw hB))
      have HF0 := hid hF
      have HSE := hid hsec
      clear HV hD hwf hraw hB hF hsec
      go_wp2_with fail
      have HSec : ∀ wx, Fr [] wr wx → Calls Try.prog 35 #[.pointer (some ⟨D, 0, none⟩)] wx fun e w' => ∃ g cap, e = .returned (.slice (some ⟨g, 0, none⟩) d.sec.length cap) ∧ Fr [] wx w' ∧ wx.heap.size ≤ g ∧ w'.ownsRow 0 9 1 (.slice (some ⟨g, 0, none⟩) d.sec.length cap) d.sec.length (strs d.sec d.sec.length) :=
        fun wx hx => (disk_sectors wx F D d (HD0.out.keep hx (by simp)) HX.out.1).mono fun e w' ⟨v, h1, h2, g, cap, h3, h4, h5⟩ => ⟨g, cap, by rw [h1, h3], h2, h4, by rw [← h3]; exact h5⟩
      have HRaw : ∀ wx, Fr [] wr wx → Calls Try.prog 36 #[.pointer (some ⟨D, 0, none⟩)] wx fun e w' => ∃ a, e = .returned (.slice a d.raw.length d.raw.length) ∧ Fr [] wx w' ∧ WRow w' 56 2 a d.raw.length (wrV d.raw) ∧ ∀ b off, a = some ⟨b, off, none⟩ → wx.heap.size ≤ b :=
        fun wx hx => disk_raw2 wx F D d (HD0.out.keep hx (by simp)) (by have := HX.out.2.1; omega)
      have HSec := hid HSec
      have HRaw := hid HRaw
      have hr1 : d.raw.length ≤ maxLen := by have := HX.out.2.1; unfold maxLen; omega
      have HR1 := hid hr1
      clear hr1
      refine (HSec.out _ (Fr.refl _ _)).mono ?_
      rintro e w2 ⟨g1, ca1, rfl, hF2, hg1, ho1⟩
      have H2 := hid (And.intro hF2 (And.intro hg1 ho1))
      clear hF2 hg1 ho1
      go_wp2_with fail
      refine (HRaw.out _ H2.out.1).mono ?_
      rintro e w3 ⟨a1, rfl, hF3, hW1, hb1⟩
      have H3 := hid (And.intro hF3 (And.intro hW1 hb1))
      have HF3 := hid (H2.out.1.trans hF3)
      clear hF3 hW1 hb1
      go_wp2_with fail
      refine (HSec.out _ HF3.out).mono ?_
      rintro e w4 ⟨g2, ca2, rfl, hF4, hg2, ho2⟩
      have H4 := hid (And.intro hF4 (And.intro hg2 ho2))
      have HF4 := hid (HF3.out.trans hF4)
      clear hF4 hg2 ho2
      go_wp2_with fail
      refine (HRaw.out _ HF4.out).mono ?_
      rintro e w5 ⟨a2, rfl, hF5, hW2, hb2⟩
      have H5 := hid (And.intro hF5 (And.intro hW2 hb2))
      have HF5 := hid (HF4.out.trans hF5)
      clear hF5 hW2 hb2
      have o5 := owns_keep (S := []) H2.out.2.2 (H3.out.1.trans (H4.out.1.trans H5.out.1)) (by simp)
      have i5 := owns_in (owns_keep (S := []) H4.out.2.2 H5.out.1 (by simp)) (strV d.sec) (fun j hj => strs_get _ _ j (by omega))
      have v5 := H3.out.2.1.keep (H4.out.1.trans H5.out.1) (by simp)
      have HA6 := hid (owns_in o5 (strV d.sec) (fun j hj => strs_get _ _ j (by omega)))
      have H6 := hid (And.intro o5 (And.intro i5 (And.intro v5 H5.out.2.1)))
      clear o5 i5 v5
      go_wp2_with fail
      refine (same_self w5 (some ⟨g1, 0, none⟩) (some ⟨g2, 0, none⟩) ca1 ca2 d.sec HA6.out H6.out.2.1).mono ?_
      rintro e w6 ⟨rfl, hF6⟩
      have HF6 := hid hF6
      clear hF6
      go_wp2_with fail
      refine (sameRaw_self w6 a1 a2 d.raw.length d.raw.length d.raw ((H6.out.2.2.1.keep HF6.out (by simp)).toIn (Nat.le_refl _) HR1.out) ((H6.out.2.2.2.keep HF6.out (by simp)).toIn (Nat.le_refl _) HR1.out)).mono ?_
      rintro e w7 ⟨rfl, hF7⟩
      have hF57 := HF6.out.trans hF7
      have HF7 := hid (And.intro hF57 (HF5.out.trans hF57))
      have H7 := hid (And.intro (owns_keep (S := []) H6.out.1 hF57 (by simp)) (And.intro (H6.out.2.1.fr0 hF57) (And.intro (H6.out.2.2.1.keep hF57 (by simp)) (H6.out.2.2.2.keep hF57 (by simp)))))
      have HA7 := hid (HA6.out.fr0 hF57)
      clear hF7 hF57 H6 HF6 HA6
      obtain ⟨i0, hi, hz0, hz1, hz2⟩ := info_parts info_string
      have HI := hid (And.intro hi (And.intro hz0 (And.intro hz1 hz2)))
      obtain ⟨i1, hj, hy0, hy1, hy2⟩ := info_parts info_write
      have HJ := hid (And.intro hj (And.intro hy0 (And.intro hy1 hy2)))
      clear hi hz0 hz1 hz2 hj hy0 hy1 hy2
      have hn3 : d.sec.length ≤ 1026 := by rw [HSE.out]; exact hn2
      go_wp2_with (at_builtin; refine wpList_copied rfl (.tmp 86) (.tmp 87) 46 rfl 9 i0 (.string ByteArray.empty) 1 16 Try.underlying46 HI.out.1 HI.out.2.1 HI.out.2.2.1 HI.out.2.2.2 rfl (by decide) w7.heap.size rfl (blk_alloc_at _ _ _ rfl) (some ⟨g1, 0, none⟩) d.sec.length ca1 (strV d.sec) rfl ?qa (fun j _ => strV_one _ j) (by omega) ?_)
      case qa => exact HA7.out.fr0 ((Fr.refl [] w7).alloc _)
      intro g3 ca3 w8 ho3 hF8 hg3
      rw [range_strs'] at ho3
      have hF78 : Fr [] w7 w8 := ((Fr.refl [] w7).alloc (.cells #[] 9)).step hF8 (by intro x hx; simp at hx; subst hx; exact .inr (Nat.le_refl _))
      have hg3' : w7.heap.size ≤ g3 := by rcases hg3 with h | h <;> omega
      have H8 := hid (And.intro hF78 (And.intro hg3' (owns_in ho3 (strV d.sec) (fun j hj => strs_get _ _ j (by omega)))))
      clear ho3 hF8 hg3 hF78 hg3'
      go_wp2_with (at_builtin; refine wpList_copied rfl (.tmp 89) (.tmp 90) 47 rfl 56 i1 (.agg #[.int .i64 0, .string ByteArray.empty]) 2 24 Try.underlying47 HJ.out.1 HJ.out.2.1 HJ.out.2.2.1 HJ.out.2.2.2 rfl (by decide) w8.heap.size rfl (blk_alloc_at _ _ _ rfl) a1 d.raw.length d.raw.length (wrV d.raw) rfl ?qa (fun j _ => wrV_one _ j) (by have := HX.out.2.1; omega) ?_)
      case qa => exact (((H7.out.2.2.1.keep H8.out.1 (by simp)).toIn (Nat.le_refl _) HR1.out)).fr0 ((Fr.refl [] w8).alloc _)
      intro g4 ca4 w9 ho4 hF9 hg4
      rw [range_wrs] at ho4
      have hF89 : Fr [] w8 w9 := ((Fr.refl [] w8).alloc (.cells #[] 56)).step hF9 (by intro x hx; simp at hx; subst hx; exact .inr (Nat.le_refl _))
      have hg4' : w8.heap.size ≤ g4 := by rcases hg4 with h | h <;> omega
      have H9 := hid (And.intro hF89 (And.intro hg4' (owns_in ho4 (wrV d.raw) (fun j hj => rawCells_get _ j hj))))
      clear ho4 hF9 hg4 hF89 hg4'
      have hF79 := H8.out.1.trans H9.out.1
      have HF9 := hid (HF7.out.2.trans hF79)
      have o9 := owns_keep (S := []) H7.out.1 hF79 (by simp)
      have HA9 := hid o9
      have HW9 := hid (H7.out.2.2.1.keep hF79 (by simp))
      have HC9 := hid (And.intro (H7.out.2.1.fr0 hF79) (And.intro (H7.out.2.2.2.keep hF79 (by simp)) (And.intro (H8.out.2.2.fr0 H9.out.1) H9.out.2.2)))
      have s3 := H3.out.1.size
      have s4 := H4.out.1.size
      have s5 := H5.out.1.size
      have s6 := HF7.out.1.size
      have s7 := H8.out.1.size
      have s8 := H9.out.1.size
      have b1 := owns_lt2 H2.out.2.2
      have b2 := H2.out.2.1
      have b3 := H4.out.2.1
      have b4 := H8.out.2.1
      have b5 := H9.out.2.1
      have c1 : wr.heap.size ≤ g1 ∧ g1 < w3.heap.size := ⟨b2, by omega⟩
      have c2 : ∀ x, x ∈ (a1.map (·.block)).toList → wr.heap.size ≤ x ∧ x < w3.heap.size ∧ x ≠ g1 := by
        intro x hx
        rcases H3.out.2.1 with ⟨rfl, _⟩ | ⟨gb, cur, rfl, hh, _⟩
        · simp at hx
        · simp at hx
          subst hx
          have := H3.out.2.2 x 0 rfl
          have := lt_of_block hh
          have := H2.out.1.size
          omega
      have c3 : w3.heap.size ≤ g2 ∧ w3.heap.size ≤ g3 ∧ w3.heap.size ≤ g4 := ⟨b3, by omega, by omega⟩
      have c4 : ∀ b off, a2 = some ⟨b, off, none⟩ → w3.heap.size ≤ b := fun b off e => by have := H5.out.2.2 b off e; omega
      have HB := hid (And.intro c1 (And.intro c2 (And.intro c3 c4)))
      clear s3 s4 s5 s6 s7 s8 b1 b2 b3 b4 b5 c1 c2 c3 c4 hF79 o9 H2 H3 H4 H5 HF3 HF4 HF5 HF7 H7 HA7 H8 H9
      go_wp2_with fail
      go_loopw [16] (fun i wx => ∃ (k : Nat) (ys : List Value), k ≤ d.sec.length ∧ i = .int .i64 k ∧ wx.ownsRow 0 9 1 (.slice (some ⟨g1, 0, none⟩) d.sec.length ca1) d.sec.length ys ∧ Fr [g1] w9 wx) (fun i _ => d.sec.length - (intOf i).toNat)
      case atStart => exact ⟨0, _, Nat.zero_le _, rfl, HA9.out, Fr.refl _ _⟩
      case round =>
        obtain ⟨k2, ys, hk2, rfl, how, hFw⟩ := hrel
        by_cases hlt2 : k2 < d.sec.length
        · obtain ⟨⟨u, hu⟩, hfz⟩ := owns_cell how k2 (by omega)
          have HW := hid (And.intro how hFw)
          clear how hFw
          go_wp2_with fail
          go_roundw
          case rel =>
            obtain ⟨ys', h'⟩ := owns_set HW.out.1 k2 (.string ⟨#[120]⟩)
            exact ⟨k2 + 1, ys', by omega, by go_num, h', HW.out.2.setCell (.inl (by simp)) _⟩
          case measure => simp [intOf]; omega
        · have HW := hid (And.intro how hFw)
          have hwr := HW9.out.keep hFw (fun g hg hx => by have := (HB.out.2.1 g (by simp [hg])).2.2; simp at hx; omega)
          have HW10 := hid hwr
          clear how hFw hwr
          go_wp2_with fail
          have hrl : d.raw.length ≤ 9223372036854775807 := by have := HR1.out; unfold maxLen at this; exact this
          go_loopw [17] (fun i wy => ∃ (k : Nat) (V : Nat → Value), k ≤ d.raw.length ∧ i = .int .i64 k ∧ WRow wy 56 2 a1 d.raw.length V ∧ Fr (a1.map (·.block)).toList wr wy) (fun i _ => d.raw.length - (intOf i).toNat)
          case atStart => exact ⟨0, _, Nat.zero_le _, rfl, HW10.out, Fr.refl _ _⟩
          case round =>
            obtain ⟨k3, V, hk3, rfl, hwv, hFy⟩ := hrel
            by_cases hlt3 : k3 < d.raw.length
            · obtain ⟨gb, rfl⟩ := hwv.sm (by omega)
              have d1 := hwv.cell (k3 * 2) (by omega)
              have d2 := hwv.cell (k3 * 2 + 1) (by omega)
              have f1 := hwv.free (k3 * 2)
              have f2 := hwv.free (k3 * 2 + 1)
              rw [Nat.zero_add] at d1 d2 f1 f2
              have HY := hid (And.intro hwv hFy)
              clear hwv hFy
              go_wp2_with fail
              go_roundw
              case rel =>
                have h1 := (HY.out.1.set (k3 * 2) (.int .i64 (-1))).set (k3 * 2 + 1) (.string ⟨#[]⟩)
                exact ⟨k3 + 1, _, by omega, by go_num, h1, (HY.out.2.setCell (.inl (by simp)) _).setCell (.inl (by simp)) _⟩
              case measure => simp [intOf]; omega
            · have HY := hid (And.intro hwv hFy)
              clear hwv hFy
              have hS2 : g1 ∉ (a1.map (·.block)).toList := fun hx => (HB.out.2.1 _ hx).2.2 rfl
              have HAy := hid (owns_keep HW.out.1 HY.out.2 (fun g hg => by simp [Value.ownBlock] at hg; subst hg; exact hS2))
              have hne : ∀ x, w3.heap.size ≤ x → x ∉ [g1] ∧ x ∉ (a1.map (·.block)).toList := fun x hx => by
                have := HB.out.1.2
                refine ⟨fun h => by simp at h; omega, fun h => by have := HB.out.2.1 x h; omega⟩
              have hin : ∀ {sz n cap : Nat} {a : Option Addr} {V : Nat → Value}, In w9 sz a n cap V → (∀ b off, a = some ⟨b, off, none⟩ → w3.heap.size ≤ b) → In _ sz a n cap V := fun h hb => (h.fr HW.out.2 (fun b off e => (hne b (hb b off e)).1)).fr HY.out.2 (fun b off e => (hne b (hb b off e)).2)
              have HCy := hid (And.intro (hin HC9.out.1 (fun b off e => by simp at e; have := HB.out.2.2.1.1; omega)) (And.intro (hin (HC9.out.2.1.toIn (Nat.le_refl _) HR1.out) HB.out.2.2.2) (And.intro (hin HC9.out.2.2.1 (fun b off e => by simp at e; have := HB.out.2.2.1.2.1; omega)) (hin HC9.out.2.2.2 (fun b off e => by simp at e; have := HB.out.2.2.1.2.2; omega)))))
              have hFl := HD0.out.lt
              have hDy := ((HD0.out.keep HF9.out (by simp)).keep HW.out.2 (fun x hx h => by simp at h; have := HB.out.1.1; have := hFl x hx; omega)).keep HY.out.2 (fun x hx h => by have := (HB.out.2.1 x h).1; have := hFl x hx; omega)
              have HDy := hid hDy
              have hFy := ((HF0.out.trans HF9.out).step HW.out.2 (fun x hx => .inr (by simp at hx; have := HF0.out.size; have := HB.out.1.1; omega))).step HY.out.2 (fun x hx => .inr (by have := (HB.out.2.1 x hx).1; have := HF0.out.size; omega))
              have HFy := hid hFy
              clear hS2 hne hin hFl hDy hFy
              go_wp2_with (at_builtin; refine wpList_append_blk rfl (.tmp 111) (.tmp 112) 46 rfl 9 i0 (.string ByteArray.empty) 1 16 Try.underlying46 HI.out.1 HI.out.2.1 HI.out.2.2.1 HI.out.2.2.2 rfl (by decide) (.slice (some ⟨g1, 0, none⟩) d.sec.length ca1) d.sec.length ys rfl ?qa ⟨wr.heap.size, 0, none⟩ 1 1 [.string ⟨#[121]⟩] rfl rfl ?qb ?qc ?qd ?qe ?_)
              case qa => exact owns_keep (S := []) HAy.out ((Fr.refl [] _).alloc _) (by simp)
              case qc => intro u hu; simp at hu; subst hu; rfl
              case qd => unfold maxLen; omega
              case qe => omega
              case qb => exact alloc_news wr [.string ⟨#[121]⟩] _
              intro v5 w11 ho5 hF11 hblk5 hnil5
              rcases owns_one ho5 with ⟨rfl, h0, h9⟩ | ⟨g5, ca5, rfl, h0, h9⟩
              · omega
              have hFx : Fr [g1] wr w11 := ((Fr.refl [g1] wr).alloc (.cells #[.string ⟨#[121]⟩] 9)).step hF11 (fun x hx => .inl (by simpa [Value.ownBlock] using hx))
              have HX11 := hid hFx
              have HW11 := hid ((HY.out.1.keep hFx (fun g hg hx => by have := (HB.out.2.1 g (by simp [hg])).2.2; simp at hx; omega)).toIn (Nat.le_refl _) HR1.out)
              clear ho5 hF11 hblk5 hnil5 hFx h0 h9
              go_wp2_with (at_builtin; refine wpList_append_full rfl (.tmp 114) (.tmp 116) 47 rfl 56 i1 (.agg #[.int .i64 0, .string ByteArray.empty]) 2 24 Try.underlying47 HJ.out.1 HJ.out.2.1 HJ.out.2.2.1 HJ.out.2.2.2 rfl (by decide) a1 d.raw.length V rfl ?qa ⟨w11.heap.size, 0, none⟩ 1 1 [.int .i64 (-2), .string ⟨#[]⟩] rfl (by decide) rfl ?qb ?qc ?qd ?qe ?_)
              case qa => exact HW11.out.fr0 ((Fr.refl [] w11).alloc _)
              case qb => exact alloc_news w11 [.int .i64 (-2), .string ⟨#[]⟩] _
              case qc => intro u hu; simp at hu; rcases hu with rfl | rfl <;> rfl
              case qd => have := HX.out.2.1; unfold maxLen; omega
              case qe => have := HX.out.2.1; omega
              intro g6 ca6 w12 hF12
              have hF12' : Fr [] w11 w12 := ((Fr.refl [] w11).alloc _).trans hF12
              have hne : ∀ x, w3.heap.size ≤ x → x ∉ [g1] := fun x hx h => by
                have := HB.out.1.2
                simp at h; omega
              have hin : ∀ {sz n cap : Nat} {a : Option Addr} {V : Nat → Value}, In wr sz a n cap V → (∀ b off, a = some ⟨b, off, none⟩ → w3.heap.size ≤ b) → In w12 sz a n cap V := fun h hb => (h.fr HX11.out (fun b off e => (hne b (hb b off e)))).fr0 hF12'
              have HCz := hid (And.intro (hin HCy.out.1 (fun b off e => by simp at e; have := HB.out.2.2.1.1; omega)) (And.intro (hin HCy.out.2.1 HB.out.2.2.2) (And.intro (hin HCy.out.2.2.1 (fun b off e => by simp at e; have := HB.out.2.2.1.2.1; omega)) (hin HCy.out.2.2.2 (fun b off e => by simp at e; have := HB.out.2.2.1.2.2; omega)))))
              have hFl := HD0.out.lt
              have hDz := (HDy.out.keep HX11.out (fun x hx h => by simp at h; have := HB.out.1.1; have := hFl x hx; omega)).keep hF12' (by simp)
              have HDz := hid hDz
              have hFz := (HFy.out.step HX11.out (fun x hx => .inr (by simp at hx; have := HF0.out.size; have := HB.out.1.1; omega))).trans hF12'
              have HFz := hid hFz
              clear hF12 hF12' hne hin hFl hDz hFz
              have HR24 := hid (show d.raw.length * 24 ≤ 140737488355328 by have := HX.out.2.1; omega)
              have hr2 : (d.raw.length + 1 : Nat) ≤ 9223372036854775807 := by have := HX.out.2.1; omega
              clear hlt hlt2 hlt3 hk hk2 hk3
              have t1 : (d.sec.length : Int) = (nn : Int) := by rw [HSE.out]
              go_wp2_with fail
              refine (same_self w12 (some ⟨g2, 0, none⟩) (some ⟨g3, 0, none⟩) ca2 ca3 d.sec HCz.out.1 HCz.out.2.2.1).mono ?_
              rintro e w13 ⟨rfl, hF13⟩
              have HF13 := hid hF13
              clear hF13
              go_wp2_with fail
              refine (sameRaw_self w13 a2 (some ⟨g4, 0, none⟩) d.raw.length ca4 d.raw (HCz.out.2.1.fr0 HF13.out) (HCz.out.2.2.2.fr0 HF13.out)).mono ?_
              rintro e w14 ⟨rfl, hF14⟩
              have HF14 := hid (HF13.out.trans hF14)
              clear hF14
              go_wp2_with fail
              refine (disk_sectors w14 F D d (HDz.out.keep HF14.out (by simp)) HX.out.1).mono ?_
              rintro e w15 ⟨v, rfl, hF15, hv⟩
              obtain ⟨g7, ca7, rfl, hg7, hI7⟩ := newStrs_in hv
              have HF15 := hid (HF14.out.trans hF15)
              have HI7 := hid hI7
              clear hF15 hv hg7 hI7
              go_wp2_with fail
              refine (same_self w15 (some ⟨g7, 0, none⟩) (some ⟨g3, 0, none⟩) ca7 ca3 d.sec HI7.out (HCz.out.2.2.1.fr0 HF15.out)).mono ?_
              rintro e w16 ⟨rfl, hF16⟩
              have HF16 := hid (HF15.out.trans hF16)
              clear hF16
              go_wp2_with fail
              refine (disk_raw w16 F D d (HDz.out.keep HF16.out (by simp)) HR24.out).mono ?_
              rintro e w17 ⟨a8, rfl, hF17, hI8, _⟩
              have HF17 := hid (HF16.out.trans hF17)
              have HI8 := hid hI8
              clear hF17 hI8
              go_wp2_with fail
              refine (sameRaw_self w17 a8 (some ⟨g4, 0, none⟩) d.raw.length ca4 d.raw HI8.out (HCz.out.2.2.2.fr0 HF17.out)).mono ?_
              rintro e w18 ⟨rfl, hF18⟩
              have HF18 := hid (HF17.out.trans hF18)
              clear hF18
              go_wp2_with fail
              refine (fixed04 _).mono ?_
              rintro e w19 ⟨rfl, hF19⟩
              have HF19 := hid (HF18.out.trans hF19)
              clear hF19
              go_wp2_with fail
              go_ret
              exact ⟨rfl, HFz.out.trans HF19.out⟩

end Go.Proofs.Ytkkahkgjedgjnaa
