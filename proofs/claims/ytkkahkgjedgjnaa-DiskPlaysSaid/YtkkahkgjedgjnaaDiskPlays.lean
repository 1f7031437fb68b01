/-
  The walk of DiskPlays.
-/
import Derived.Test.YtkkahkgjedgjnaaPlaysLaw
import Derived.Test.YtkkahkgjedgjnaaInD
namespace Go.Proofs.Ytkkahkgjedgjnaa
open Go.RowKit
set_option linter.unusedVariables false
set_option linter.unusedSimpArgs false

theorem CutRes.kinds {w w' : World} {ss : List ByteArray} {ws : List (Int × ByteArray)} {n m : Int} {e : Ending} (h : CutRes w ss ws n m e w') (h0 : cutE ss ws n m = 0) :
    Fr [] w w' ∧ (cutV ss ws n m).length = ss.length ∧ ∃ g cap, e = .returned (.tuple #[.slice (some ⟨g, 0, none⟩) ss.length cap, .int .i64 0]) ∧ In w' 1 (some ⟨g, 0, none⟩) ss.length cap (strV (cutV ss ws n m)) := by
  obtain ⟨h1, ⟨h2, _⟩ | ⟨_, h3, g, cap, h4, _, h5, h6, h7⟩⟩ := h
  · exact absurd h0 h2
  · exact ⟨h1, h3, g, cap, h4, h7.toIn h5 h6⟩

theorem st_sectors_len {W : Base} {w : World} {R : List Thing} (H : St W w R) (i : Nat) {D : Nat} {d : DS} (hi : R[i]? = some (DkT D d)) (hw : d.wf) {ss : List ByteArray} (hs : d.sec = ss) (n : Nat) (hn : ss.length = n) :
    Calls Try.prog 35 #[.pointer (some ⟨D, 0, none⟩)] w fun e w' => ∃ g cap, e = .returned (.slice (some ⟨g, 0, none⟩) n cap) ∧ Fr [] w w' ∧ In w' 1 (some ⟨g, 0, none⟩) n cap (strV ss) := by
  subst hs hn
  obtain ⟨F, hD⟩ := H.dk i hi
  refine (disk_sectors w F D d hD hw).mono ?_
  rintro e w' ⟨v, rfl, hF, hv⟩
  obtain ⟨g, c, rfl, _, hI⟩ := newStrs_in hv
  exact ⟨g, c, rfl, hF, hI⟩

theorem same_len_self (w : World) (a b : Option Addr) (ca cb n : Nat) (ss : List ByteArray) (hn : ss.length = n) (ha : In w 1 a n ca (strV ss)) (hb : In w 1 b n cb (strV ss)) :
    Calls Try.prog 37 #[.slice a n ca, .slice b n cb] w fun e w' => e = .returned (.bool true) ∧ Fr [] w w' := by
  subst hn; exact same_self w a b ca cb ss ha hb

/-- What the loop keeps. -/
structure PlayI (w wr : World) (o : Obj) (A B : Nat) (ss : List ByteArray) (n m : Int) (k : Nat) (a b : DS) : Prop where
  st : St (.of w) wr [BlkT w.heap.size o, DkT A a, DkT B b]
  pb : PlayB ss b
  pa : PlayA ss n m a b
  wa : a.wf
  wb : b.wf
  l : b.raw.length ≤ k

theorem PlayI.la {w wr : World} {o : Obj} {A B : Nat} {ss : List ByteArray} {n m : Int} {k : Nat} {a b : DS} (h : PlayI w wr o A B ss n m k a b) : a.raw.length ≤ k := by
  have := h.l
  rcases h.pa with ⟨h1, rfl⟩ | ⟨h1, _, _, h4⟩
  · exact this
  · omega

set_option maxHeartbeats 6400000 in
set_option maxRecDepth 100000 in
theorem plays04_any (w : World) (a b : Option Addr) (na ca nb cb : Nat) (n m : Int) (ss : List ByteArray) (ws : List (Int × ByteArray)) (hna : ss.length = na) (hnb : ws.length = nb) (ha : In w 1 a na ca (strV ss)) (hb : In w 2 b nb cb (wrV ws)) (hn2 : nb * 24 ≤ 140737488351232)
    (n1 : -9223372036854775808 ≤ n) (n2 : n ≤ 9223372036854775807) (m2 : m ≤ 9223372036854775807) :
    Calls Try.prog 15 #[.agg #[.slice a na ca, .slice b nb cb, .int .i64 n, .int .i64 m]] w fun e w' => e = .returned (.bool true) ∧ Fr [] w w' := by
  subst hna hnb
  have hma := ha.max
  have hmb := hb.max
  have HA := hid ha
  have HB := hid hb
  clear ha hb
  have H : St (.of w) (w.alloc (.cells #[.slice a ss.length ca, .slice b ws.length cb, .int .i64 n, .int .i64 m] 49)) [BlkT w.heap.size (.cells #[.slice a ss.length ca, .slice b ws.length cb, .int .i64 n, .int .i64 m] 49)] := (St.refl w).alloc _
  have k0 := cell_blk (i := 0) (H.blk 0 rfl) rfl
  have k1 := cell_blk (i := 1) (H.blk 0 rfl) rfl
  have k2 := cell_blk (i := 2) (H.blk 0 rfl) rfl
  have k3 := cell_blk (i := 3) (H.blk 0 rfl) rfl
  go_enter Try.func15, Try.ntmps15
  go_wp2_with fail
  generalize hwA : w.alloc (.cells #[.slice a ss.length ca, .slice b ws.length cb, .int .i64 n, .int .i64 m] 49) = wA at H k0 k1 k2 k3 ⊢
  clear hwA
  go_region_held3 (fun wx : World => wx.cell? ⟨w.heap.size, 0, none⟩ = some (.slice a ss.length ca) ∧ wx.cell? ⟨w.heap.size, 1, none⟩ = some (.slice b ws.length cb) ∧ wx.cell? ⟨w.heap.size, 2, none⟩ = some (.int .i64 n) ∧ wx.cell? ⟨w.heap.size, 3, none⟩ = some (.int .i64 m)) ((exact ⟨k0, k1, k2, k3⟩)) (fail)
  clear k0 k1 k2 k3
  replace H := H.drew
  generalize wA.drew = w0 at H ⊢
  go_wp2_with fail
  by_cases hok : okSecs ss
  case neg =>
    refine (disk_load w0 a ca ss (HA.out.fr0 H.fr)).mono ?_
    rintro e w1 ⟨hF1, ⟨hbad, code, hcode, hle, rfl⟩ | ⟨hok', _⟩⟩
    case inr => exact absurd hok' hok
    replace H := H.same hF1
    clear hF1 hbad
    rcases hcode with rfl | rfl
    all_goals
      have HL := hid hle
      clear hle
      go_wp2_with fail
      refine (disk_load w1 a ca ss (HA.out.fr0 H.fr)).mono ?_
      rintro e w2 ⟨hF2, ⟨hbad, code2, hcode2, hle2, rfl⟩ | ⟨hok', _⟩⟩
      case inr => exact absurd hok' hok
      replace H := H.same hF2
      rw [← HL.out] at hle2
      subst hle2
      clear hF2 hbad hcode2
      go_wp2_with fail
      refine (st_fixed H).mono ?_
      rintro e w101 ⟨rfl, H⟩
      go_wp2_with fail
      go_ret
      exact ⟨rfl, H.fr⟩
  refine (st_load H (HA.out.fr0 H.fr) hok).mono ?_
  clear H
  rintro e w1 ⟨A, rfl, H⟩
  go_wp2_with fail
  refine (st_load H (HA.out.fr0 H.fr) hok).mono ?_
  clear H
  rintro e w2 ⟨B, rfl, H⟩
  replace H : St (.of w) w2 [BlkT w.heap.size (.cells #[.slice a ss.length ca, .slice b ws.length cb, .int .i64 n, .int .i64 m] 49), DkT A (DS.of ss), DkT B (DS.of ss)] := H
  have HOK := hid hok
  clear hok
  by_cases hbad : n < 1 ∨ (ws.length : Int) < n ∨ m < 0 ∨ 128 < m
  · obtain ⟨F, hD⟩ := H.dk 1 rfl
    have HR := hid (disk_arm_no w2 F A _ (-1) 0 hD 1 (.inr ⟨rfl, .inl (by omega), rfl⟩))
    clear hD
    by_cases g1 : n < 1
    · skip
      clear hbad
      go_wp2_with fail
      refine HR.out.mono ?_
      rintro e w3 ⟨rfl, rfl⟩
      go_wp2_with fail
      refine (st_fixed H).mono ?_
      rintro e w102 ⟨rfl, H⟩
      go_wp2_with fail
      go_ret
      exact ⟨rfl, H.fr⟩
    by_cases g2 : (ws.length : Int) < n
    · skip
      clear hbad
      go_wp2_with fail
      refine HR.out.mono ?_
      rintro e w3 ⟨rfl, rfl⟩
      go_wp2_with fail
      refine (st_fixed H).mono ?_
      rintro e w103 ⟨rfl, H⟩
      go_wp2_with fail
      go_ret
      exact ⟨rfl, H.fr⟩
    by_cases g3 : m < 0
    · skip
      clear hbad
      go_wp2_with fail
      refine HR.out.mono ?_
      rintro e w3 ⟨rfl, rfl⟩
      go_wp2_with fail
      refine (st_fixed H).mono ?_
      rintro e w104 ⟨rfl, H⟩
      go_wp2_with fail
      go_ret
      exact ⟨rfl, H.fr⟩
    · have g4 : 128 < m := by omega
      clear hbad
      go_wp2_with fail
      refine HR.out.mono ?_
      rintro e w3 ⟨rfl, rfl⟩
      go_wp2_with fail
      refine (st_fixed H).mono ?_
      rintro e w105 ⟨rfl, H⟩
      go_wp2_with fail
      go_ret
      exact ⟨rfl, H.fr⟩
  have g1 : ¬ n < 1 := by omega
  have g2 : ¬ (ws.length : Int) < n := by omega
  have g3 : ¬ m < 0 := by omega
  have g4 : ¬ 128 < m := by omega
  have harm : (DS.of ss).arm n m = (0, ⟨ss, [], n, m, false⟩) := by unfold DS.arm; rw [if_neg (by simp [DS.of]), if_neg (by omega)]; rfl
  have HArm := hid harm
  have hwfa := arm_wf (of_wf HOK.out) n m n2
  rw [harm] at hwfa
  have HP0 := hid (And.intro (play_start (ss := ss) (n := n) (m := m) (by omega)) hwfa)
  clear harm hbad hwfa
  go_wp2_with fail
  refine (st_arm_eq H 1 rfl n m HArm.out).mono ?_
  clear H
  rintro e w3 ⟨rfl, H⟩
  have hI : PlayI w w3 (.cells #[.slice a ss.length ca, .slice b ws.length cb, .int .i64 n, .int .i64 m] 49) A B ss n m 0 ⟨ss, [], n, m, false⟩ (DS.of ss) := ⟨H, HP0.out.1.1, HP0.out.1.2, HP0.out.2, of_wf HOK.out, Nat.le_refl _⟩
  have HII := hid hI
  clear H hI HArm HP0
  go_wp2_with fail
  go_loopw [11] (fun i wr => ∃ (k : Nat) (da db : DS), k ≤ ws.length ∧ i = .int .i64 k ∧ PlayI w wr (.cells #[.slice a ss.length ca, .slice b ws.length cb, .int .i64 n, .int .i64 m] 49) A B ss n m k da db) (fun i _ => ws.length - (intOf i).toNat)
  case atStart => exact ⟨0, _, _, Nat.zero_le _, rfl, HII.out⟩
  case round =>
    obtain ⟨k, da, db, hk, rfl, hI⟩ := hrel
    have HV := hid hI
    clear HII hI
    by_cases hlt : k < ws.length
    · obtain ⟨bb, ob, rfl⟩ := HB.out.sm (by omega)
      have c1 := HV.out.st.fr.cell0 (HB.out.cell bb ob rfl (k * 2) (by omega))
      have c2 := HV.out.st.fr.cell0 (HB.out.cell bb ob rfl (k * 2 + 1) (by omega))
      rw [wrV_0] at c1
      rw [wrV_1, ← Nat.add_assoc] at c2
      generalize (wAt ws k).1 = x at c1
      generalize (wAt ws k).2 = s at c2
      obtain ⟨p1, p2, p3, p4⟩ := play_step HOK.out (by omega) (by omega) (by omega) HV.out.pb HV.out.pa x s
      have q1 := write_wf HV.out.wa x s
      have q2 := write_wf HV.out.wb x s
      obtain ⟨z, da', hza⟩ : ∃ z d, da.write x s = (z, d) := ⟨_, _, rfl⟩
      obtain ⟨y, db', hzb⟩ : ∃ z d, db.write x s = (z, d) := ⟨_, _, rfl⟩
      rw [hza] at p2 p3 q1
      rw [hzb] at p1 p2 p3 p4 q2
      have HZ := hid (And.intro hza hzb)
      have HP := hid (And.intro p1 (And.intro p2 (And.intro p4 (And.intro q1 q2))))
      have hyz : z = y ∨ z = 2 := p3
      have hl1 := HV.out.l
      have hl2 := HV.out.la
      clear p1 p2 p3 p4 q1 q2 hza hzb
      go_wp2_with fail
      go_region_held3 (fun wx : World => wx.cell? ⟨bb, ob + k * 2, none⟩ = some (.int .i64 x) ∧ wx.cell? ⟨bb, ob + k * 2 + 1, none⟩ = some (.string s)) ((first | exact ⟨c1, c2⟩ | exact hNow))
        (first | (go_at_call 34; refine (st_write_eq HV.out.st.drew 1 rfl x s HV.out.wa (by omega) HZ.out.1).mono ?_; rintro e w4 ⟨rfl, H⟩; have u1 := H.fr.cell0 (HB.out.cell bb ob rfl (k * 2) (by omega)); have u2 := H.fr.cell0 (HB.out.cell bb ob rfl (k * 2 + 1) (by omega)); have u3 := HV.out.st.fr.cell0 (HB.out.cell bb ob rfl (k * 2) (by omega)); have u4 := HV.out.st.fr.cell0 (HB.out.cell bb ob rfl (k * 2 + 1) (by omega)); rw [← u3, c1] at u1; rw [← u4, ← Nat.add_assoc, c2] at u2; have hNow := And.intro u1 u2; clear u3 u4))
      clear hNow c1 c2
      replace H : St (.of w) w4 [_, DkT A da', DkT B db] := H
      have H4 := hid H
      clear H
      go_wp2_with fail
      go_region_held3 (fun wx : World => wx.cell? ⟨bb, ob + k * 2, none⟩ = some (.int .i64 x) ∧ wx.cell? ⟨bb, ob + k * 2 + 1, none⟩ = some (.string s)) ((first | exact ⟨u1, u2⟩ | exact hNow))
        (first | (go_at_call 34; refine (st_write_eq H4.out.drew 2 rfl x s HV.out.wb (by omega) HZ.out.2).mono ?_; rintro e w5 ⟨rfl, H⟩; have v1 := H.fr.cell0 (HB.out.cell bb ob rfl (k * 2) (by omega)); have v2 := H.fr.cell0 (HB.out.cell bb ob rfl (k * 2 + 1) (by omega)); have v3 := H4.out.fr.cell0 (HB.out.cell bb ob rfl (k * 2) (by omega)); have v4 := H4.out.fr.cell0 (HB.out.cell bb ob rfl (k * 2 + 1) (by omega)); rw [← v3, u1] at v1; rw [← v4, ← Nat.add_assoc, u2] at v2; have hNow := And.intro v1 v2; clear v3 v4))
      clear hNow u1 u2 v1 v2
      replace H : St (.of w) w5 [_, DkT A da', DkT B db'] := H
      have H5 : Hid (PlayI w w5 _ A B ss n m (k + 1) da' db') := hid ⟨H, HP.out.1, HP.out.2.1, HP.out.2.2.2.1, HP.out.2.2.2.2, by have := HP.out.2.2.1; omega⟩
      have hlb : db'.raw.length ≤ k + 1 := H5.out.l
      clear H H4 HV
      have hE := play_cutE HOK.out H5.out.pb db'.raw.length 0 (by omega) (Int.le_refl _) (Int.le_refl _) (by omega) (fun _ => rfl)
      have hVV := play_cutV H5.out.pb
      have HEV := hid (And.intro hE (And.intro hVV H5.out.pb.len))
      clear hE hVV
      by_cases hzy : z = y
      · subst hzy
        clear hyz
        go_wp2_with fail
        refine (st_raw H5.out.st 2 rfl (by omega)).mono ?_
        rintro e w6 ⟨a6, rfl, H6⟩
        go_wp2_with fail
        refine (st_raw H6 2 rfl (by omega)).mono ?_
        rintro e w7 ⟨a7, rfl, H7⟩
        have H7 := hid H7
        clear H6
        go_wp2_with fail
        refine (cut_any w7 a a6 ca db'.raw.length ss db'.raw (HA.out.fr0 H7.out.fr) (H7.out.in_ 3 rfl) (fun i hi => by have := HOK.out.2.2 i hi; omega) (fun i hi => by have := H5.out.pb.sz i hi; omega) db'.raw.length 0 (by omega) (by omega) (by omega)).mono ?_
        intro e w8 hres
        obtain ⟨hF8, _, g8, c8, rfl, hI8⟩ := hres.kinds HEV.out.1
        rw [HEV.out.2.1] at hI8
        have H8 := hid (And.intro (H7.out.same hF8) hI8)
        clear hF8 hI8 hres
        go_wp2_with fail
        refine (st_sectors_len H8.out.1 2 rfl H5.out.wb rfl ss.length HEV.out.2.2).mono ?_
        rintro e w9 ⟨g9, c9, rfl, hF9, hI9⟩
        have H9 := hid (And.intro (H8.out.1.same hF9) (And.intro (H8.out.2.fr0 hF9) hI9))
        clear hF9 hI9
        go_wp2_with fail
        refine (same_len_self w9 (some ⟨g8, 0, none⟩) (some ⟨g9, 0, none⟩) c8 c9 ss.length db'.sec HEV.out.2.2 H9.out.2.1 H9.out.2.2).mono ?_
        rintro e w10 ⟨rfl, hF10⟩
        have H10 := hid (H9.out.1.same hF10)
        clear hF10
        go_wp2_with fail
        go_roundw
        case rel => exact ⟨k + 1, da', db', by omega, by go_num, ⟨H10.out.take 3, H5.out.pb, H5.out.pa, H5.out.wa, H5.out.wb, H5.out.l⟩⟩
        case measure => simp [intOf]; omega
      · obtain rfl : z = 2 := by omega
        have hz1 : ((2 : Int) == y) = false := by rw [beq_eq_false_iff_ne]; exact hzy
        have hz2 : ((2 : Int) != y) = true := by rw [bne_iff_ne]; exact hzy
        clear hyz hzy
        go_wp2_with fail
        refine (st_raw H5.out.st 2 rfl (by omega)).mono ?_
        rintro e w6 ⟨a6, rfl, H6⟩
        go_wp2_with fail
        refine (st_raw H6 2 rfl (by omega)).mono ?_
        rintro e w7 ⟨a7, rfl, H7⟩
        have H7 := hid H7
        clear H6
        go_wp2_with fail
        refine (cut_any w7 a a6 ca db'.raw.length ss db'.raw (HA.out.fr0 H7.out.fr) (H7.out.in_ 3 rfl) (fun i hi => by have := HOK.out.2.2 i hi; omega) (fun i hi => by have := H5.out.pb.sz i hi; omega) db'.raw.length 0 (by omega) (by omega) (by omega)).mono ?_
        intro e w8 hres
        obtain ⟨hF8, _, g8, c8, rfl, hI8⟩ := hres.kinds HEV.out.1
        rw [HEV.out.2.1] at hI8
        have H8 := hid (And.intro (H7.out.same hF8) hI8)
        clear hF8 hI8 hres
        go_wp2_with fail
        refine (st_sectors_len H8.out.1 2 rfl H5.out.wb rfl ss.length HEV.out.2.2).mono ?_
        rintro e w9 ⟨g9, c9, rfl, hF9, hI9⟩
        have H9 := hid (And.intro (H8.out.1.same hF9) (And.intro (H8.out.2.fr0 hF9) hI9))
        clear hF9 hI9
        go_wp2_with fail
        refine (same_len_self w9 (some ⟨g8, 0, none⟩) (some ⟨g9, 0, none⟩) c8 c9 ss.length db'.sec HEV.out.2.2 H9.out.2.1 H9.out.2.2).mono ?_
        rintro e w10 ⟨rfl, hF10⟩
        have H10 := hid (H9.out.1.same hF10)
        clear hF10
        go_wp2_with fail
        go_roundw
        case rel => exact ⟨k + 1, da', db', by omega, by go_num, ⟨H10.out.take 3, H5.out.pb, H5.out.pa, H5.out.wa, H5.out.wb, H5.out.l⟩⟩
        case measure => simp [intOf]; omega
    · have H5 := HV
      have hlb : db.raw.length ≤ k := H5.out.l
      clear HV
      go_wp2_with fail
      refine (st_raw H5.out.st 2 rfl (by omega)).mono ?_
      rintro e w6 ⟨a6, rfl, H6⟩
      have H6 := hid H6
      by_cases hlive : (db.raw.length : Int) < n
      · have hda : da = ⟨db.sec, db.raw, n - db.raw.length, m, false⟩ := by
          rcases H5.out.pa with ⟨_, h⟩ | ⟨h, _⟩
          · exact h
          · omega
        have HDA := hid hda
        have hdd : da.dead = false := by rw [hda]
        have hds : da.sec = db.sec := by rw [hda]
        have HDS := hid (And.intro hds H5.out.pb.len)
        obtain ⟨F1, hD1⟩ := H6.out.dk 1 rfl
        have HDe := hid (disk_dead w6 F1 A da hD1)
        rw [hdd] at HDe
        clear hda hdd hds hD1
        go_wp2_with fail
        refine HDe.out.mono ?_
        rintro e w7 ⟨rfl, rfl⟩
        go_wp2_with fail
        refine (st_sectors_len H6.out 1 rfl H5.out.wa HDS.out.1 ss.length HDS.out.2).mono ?_
        rintro e w7 ⟨g7, c7, rfl, hF7, hI7⟩
        have H7 := hid (And.intro (H6.out.same hF7) hI7)
        clear hF7 hI7
        go_wp2_with fail
        refine (st_sectors_len H7.out.1 2 rfl H5.out.wb rfl ss.length HDS.out.2).mono ?_
        rintro e w8 ⟨g8, c8, rfl, hF8, hI8⟩
        have H8 := hid (And.intro (H7.out.1.same hF8) (And.intro (H7.out.2.fr0 hF8) hI8))
        clear hF8 hI8
        go_wp2_with fail
        refine (same_len_self w8 (some ⟨g7, 0, none⟩) (some ⟨g8, 0, none⟩) c7 c8 ss.length db.sec HDS.out.2 H8.out.2.1 H8.out.2.2).mono ?_
        rintro e w9 ⟨rfl, hF9⟩
        have H9 := hid (H8.out.1.same hF9)
        clear hF9
        go_wp2_with fail
        refine (st_fixed H9.out).mono ?_
        rintro e w10 ⟨rfl, H10⟩
        go_wp2_with fail
        go_ret
        exact ⟨rfl, H10.fr⟩
      · obtain ⟨hn3, hdd, hds, hdr⟩ : n ≤ db.raw.length ∧ da.dead = true ∧ da.sec = cutV ss db.raw (n - 1) m ∧ (da.raw.length : Int) = n - 1 := by
          rcases H5.out.pa with ⟨h, _⟩ | h
          · exact absurd h hlive
          · exact h
        have hE := play_cutE HOK.out H5.out.pb (n - 1) m (by omega) (by omega) (by omega) (by omega) (by omega)
        have hlen : da.sec.length = ss.length := by
          rw [hds]; unfold cutV; split
          · rw [List.length_set]; exact outK_len _ _ _
          · exact outK_len _ _ _
        have HDS := hid (And.intro hds (And.intro hlen (And.intro hE hdr)))
        obtain ⟨F1, hD1⟩ := H6.out.dk 1 rfl
        have hla := H5.out.la
        have heq : (((da.raw.length : Nat) : Int) == n - 1) = true := by rw [beq_iff_eq]; exact hdr
        clear hds hlen hE hD1
        go_wp2_with fail
        refine (cut_any w6 a a6 ca db.raw.length ss db.raw (HA.out.fr0 H6.out.fr) (H6.out.in_ 3 rfl) (fun i hi => by have := HOK.out.2.2 i hi; omega) (fun i hi => by have := H5.out.pb.sz i hi; omega) (n - 1) m (by omega) (by omega) m2).mono ?_
        intro e w7 hres
        obtain ⟨hF7, _, g7, c7, rfl, hI7⟩ := hres.kinds HDS.out.2.2.1
        rw [← HDS.out.1] at hI7
        have H7 := hid (And.intro (H6.out.same hF7) hI7)
        obtain ⟨F1, hD1⟩ := H7.out.1.dk 1 rfl
        have HDe := hid (disk_dead w7 F1 A da hD1)
        rw [hdd] at HDe
        clear hF7 hI7 hres hD1 hdd hdr
        go_wp2_with fail
        refine HDe.out.mono ?_
        rintro e w8 ⟨rfl, rfl⟩
        go_wp2_with fail
        refine (st_sectors_len H7.out.1 1 rfl H5.out.wa rfl ss.length HDS.out.2.1).mono ?_
        rintro e w8 ⟨g8, c8, rfl, hF8, hI8⟩
        have H8 := hid (And.intro (H7.out.1.same hF8) (And.intro (H7.out.2.fr0 hF8) hI8))
        clear hF8 hI8
        go_wp2_with fail
        refine (same_len_self w8 (some ⟨g8, 0, none⟩) (some ⟨g7, 0, none⟩) c8 c7 ss.length da.sec HDS.out.2.1 H8.out.2.2 H8.out.2.1).mono ?_
        rintro e w9 ⟨rfl, hF9⟩
        have H9 := hid (H8.out.1.same hF9)
        clear hF9
        go_wp2_with fail
        refine (st_raw H9.out 1 rfl (by omega)).mono ?_
        rintro e w10 ⟨a10, rfl, H10⟩
        go_wp2_with fail
        refine (st_fixed H10).mono ?_
        rintro e w11 ⟨rfl, H11⟩
        go_wp2_with fail
        go_ret
        exact ⟨rfl, H11.fr⟩

theorem plays04_walk (w : World) (a : Option Addr) (na ca : Nat) (V : Nat → Value) (hS : SlIn w 1 16 a na ca V) (hq : ∀ i, i < na → Str (V (i * 1)))
    (b : Option Addr) (nb cb : Nat) (U : Nat → Value) (hT : SlIn w 2 24 b nb cb U) (hq0 : ∀ i, i < nb → I64 (U (i * 2))) (hq1 : ∀ i, i < nb → Str (U (i * 2 + 1)))
    (n : Int) (n1 : -9223372036854775808 ≤ n) (n2 : n ≤ 9223372036854775807) (m : Int) (m1 : -9223372036854775808 ≤ m) (m2 : m ≤ 9223372036854775807) :
    Calls Try.prog 15 #[.agg #[.slice a na ca, .slice b nb cb, .int .i64 n, .int .i64 m]] w fun e w' => e = .returned (.bool true) ∧ Fr [] w w' := by
  obtain ⟨ss, hl, hI, h1, h2⟩ := strs_of hS hq
  obtain ⟨ws, hl2, hI2, h3, h4⟩ := wrs_of hT hq0 hq1
  exact plays04_any w a b na ca nb cb n m ss ws hl hl2 hI hI2 h3 n1 n2 m2

end Go.Proofs.Ytkkahkgjedgjnaa
