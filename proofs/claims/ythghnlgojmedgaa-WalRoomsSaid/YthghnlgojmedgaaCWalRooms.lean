/-
  The walk of WalRooms.
-/
import Derived.Test.YthghnlgojmedgaaM28
namespace Go.Proofs.Ythghnlgojmedgaa
open Go.RowKit
set_option linter.unusedVariables false
set_option linter.unusedSimpArgs false

theorem append_empty {x : WS} {d : DS} {r : ByteArray} (h1 : x.dead = false) (h2 : d.dead = false) (h : r.size = 0 ∨ 2048 < r.size) : x.append d r = (92, x, d) := by
  unfold WS.append; rw [if_neg (by rw [h1, h2]; simp), if_pos h]
theorem append_full {x : WS} {d : DS} {r : ByteArray} (h1 : x.dead = false) (h2 : d.dead = false) (h3 : 1 ≤ r.size) (h4 : r.size ≤ 2048) (h : roomN d.sec.length < x.h.snap + x.h.log + (tf r).size) : x.append d r = (93, x, d) := by
  unfold WS.append; rw [if_neg (by rw [h1, h2]; simp), if_neg (by omega), if_pos h]
theorem snapshot_long {x : WS} {d : DS} {r : ByteArray} (h1 : x.dead = false) (h2 : d.dead = false) (h : 17000 < r.size ∨ roomN d.sec.length < r.size) : x.snapshot d r = (92, x, d) := by
  unfold WS.snapshot; rw [if_neg (by rw [h1, h2]; simp), if_pos h]
theorem room_facts {x : WS} {d : DS} {s : ByteArray} {l : List ByteArray} (L : Log x d s l) : x.room d ≤ 2048 ∧ (x.room d = 0 ∨ x.h.snap + x.h.log + ((nf (x.room d)).size + x.room d) ≤ roomN d.sec.length) ∧
    (x.room d < 2048 → roomN d.sec.length < x.h.snap + x.h.log + ((nf (x.room d + 1)).size + (x.room d + 1))) := by
  have hr := L.i.room
  unfold WS.room
  obtain ⟨h1, h2, h3⟩ := rmL_spec (x.left d) (min 2048 (x.left d))
  have hle : x.left d + x.h.snap + x.h.log = roomN d.sec.length := by unfold WS.left; omega
  generalize rmL (x.left d) (min 2048 (x.left d)) = m at h1 h2 h3 ⊢
  refine ⟨by omega, by omega, fun hm => ?_⟩
  by_cases hk : m + 1 ≤ min 2048 (x.left d)
  · have := h3 (m + 1) (by omega) hk; omega
  · have := nf_pos (m + 1); omega
theorem zconv {w : World} {g n : Nat} (h : w.ownsRow 0 5 1 (.slice (some ⟨g, 0, none⟩) n n) n (madeCells #[Value.int .u8 0] n).toList) :
    (convert 47 9 (.slice (some ⟨g, 0, none⟩) n n)).run Try.prog w = .ok (.string (zeroS n)) w := by
  obtain ⟨cur, hb, hs, hz⟩ := made_blk h
  have hl : (zeroL n).length = n := List.length_replicate
  have hcur := bytes_of (cur := cur) (l := zeroL n) (by rw [hs, hl]) (fun j hj => by
    rw [hl] at hj
    rw [hz j hj]
    congr 2
    unfold zeroL
    rw [List.getD_eq_getElem?_getD, List.getElem?_replicate, if_pos hj]; rfl)
  have h2 := run_text' (P := Try.prog) w 47 9 5 g 0 n (zeroL n) Try.underlying47 Try.underlying5 Try.underlying9 (fun j v hv => by
    rw [Nat.zero_add]
    refine cell_blk hb ?_
    rw [← hcur, Array.getElem?_toList] at hv
    exact hv)
  rw [hl] at h2
  exact h2

theorem mkz (w : World) (z : Int) (q : Nat) (hz : z = (q : Int)) (hq : q ≤ 20000) : ∃ w' g, (Instr.makeSlice 47 (.int .i64 z) (.int .i64 z)).run Try.prog w = .ok (.slice (some ⟨g, 0, none⟩) q q) w' ∧ Fr [] w w' ∧
    (convert 47 9 (.slice (some ⟨g, 0, none⟩) q q)).run Try.prog w' = .ok (.string (zeroS q)) w' := by
  obtain ⟨i0, hi0, hz0, hz1, hz2⟩ := info_parts info_u8
  obtain ⟨w', hrun, r1, r2⟩ := run_make_full (P := Try.prog) w 0 47 5 i0 (.int .u8 0) 1 Try.underlying47 hi0 hz0 hz1 .i64 .i64 q (by rw [hz2]; omega) (by unfold maxLen; omega) (Nat.zero_le _)
  subst hz
  refine ⟨w', w.heap.size, hrun, (Fr.of_grown r2).mono (by simp), zconv ?_⟩
  simpa [Value.cells] using r1

theorem Apd.append3 {x : WS} {d : DS} {l : List ByteArray} (A : Apd x d l) (r : ByteArray) : ∃ l', Apd (x.append d r).2.1 (x.append d r).2.2 l' ∧ (x.append d r).2.2.sec.length = d.sec.length := by
  obtain ⟨l', h⟩ := A.append r
  refine ⟨l', h, ?_⟩
  rcases log_append A.log r A.armed with ⟨_, _, h⟩ | ⟨_, _, _, _, _, _, h⟩
  · rw [h]
  · exact h
theorem room_ok {x : WS} {d : DS} {l : List ByteArray} (A : Apd x d l) (h : 1 ≤ x.room d) : (x.append d (zeroS (x.room d))).1 = 0 := by
  have hf := room_facts A.log
  refine log_append_ok A.log _ A.armed ?_ ?_ (by rw [A.num]; have := A.log.len.1; omega)
  · unfold okRec; rw [zeroS_size]; omega
  · rw [tf_size, zeroS_size]
    rcases hf.2.1 with h1 | h1
    · omega
    · exact h1

set_option maxHeartbeats 1600000 in
set_option maxRecDepth 100000 in
theorem walrooms_any (w : World) (half : Int) (hl1 : -9223372036854775808 ≤ half) (hl2 : half ≤ 9223372036854775807) (a : Option Addr) (n cap : Nat) (ss : List ByteArray) (hn : ss.length = n) (hI : In w 1 a n cap (strV ss)) (hsz : ∀ i, i < n → (sAt ss i).size ≤ 140737488351232) :
    Calls Try.prog 6 #[.int .i64 half, .slice a n cap] w fun e w' => e = .returned (.bool true) ∧ Fr [] w w' := by
  have H := St.refl w
  have HI := hid hI
  have HSZ := hid hsz
  have hm := hI.max
  clear hI hsz
  by_cases hbad : half < 1 ∨ 512 < half
  · have HF := hid (st_fixed09 H)
    clear H
    by_cases h1 : half < 1
    · clear hbad
      go_enter Try.func6, Try.ntmps6
      go_wp2_with fail
      refine HF.out.mono ?_
      rintro e w1 ⟨rfl, H⟩
      go_wp2_with fail
      go_ret
      exact ⟨rfl, H.fr⟩
    · have h2 : 512 < half := by omega
      clear hbad
      go_enter Try.func6, Try.ntmps6
      go_wp2_with fail
      refine HF.out.mono ?_
      rintro e w1 ⟨rfl, H⟩
      go_wp2_with fail
      go_ret
      exact ⟨rfl, H.fr⟩
  obtain ⟨hf, rfl⟩ : ∃ hf : Nat, half = hf := ⟨half.toNat, by omega⟩
  have h1 : 1 ≤ hf := by omega
  have h2 : hf ≤ 512 := by omega
  have HL := hid (st_laid H hf h1 h2)
  have b1 : ¬ (hf : Int) < 1 := by omega
  have b2 : ¬ (512 : Int) < hf := by omega
  have HMX := hid (And.intro hm (And.intro hn (And.intro h1 h2)))
  clear H hbad hl1 hl2 h1 h2 hm hn
  go_enter Try.func6, Try.ntmps6
  go_wp2_with fail
  refine HL.out.mono ?_
  rintro e w1 ⟨D, B, d0, rfl, H, hl⟩
  have HS := hid H
  have HA := hid (show Apd ⟨fmtH, 0, false⟩ d0 [] ∧ d0.sec.length = 2 + 2 * hf from ⟨⟨hl.out.1, hl.out.2.1, by rw [hl.out.2.2.1]; decide, rfl⟩, hl.out.2.2.2.1⟩)
  clear H hl HL b1 b2
  go_wp2_with fail
  go_loopw [7] (fun iv wr => ∃ (k : Nat) (x : WS) (d : DS) (l : List ByteArray), k ≤ n ∧ iv = .int .i64 k ∧ Hid (Apd x d l ∧ d.sec.length = 2 + 2 * hf) ∧ St (.of w) wr [DkT D d, WlT B D x]) (fun iv _ => n - (intOf iv).toNat)
  case atStart => exact ⟨0, _, _, _, Nat.zero_le _, rfl, HA, by simpa using HS.out⟩
  case round =>
    obtain ⟨k, x, d, l, hk, rfl, hA, H⟩ := hrel
    by_cases hlt : k < n
    · obtain ⟨b, off, rfl⟩ := HI.out.sm (by omega)
      obtain ⟨r, hr⟩ : ∃ r, sAt ss k = r := ⟨_, rfl⟩
      have hcell : ∀ w', Fr [] w w' → w'.cell? ⟨b, off + k, none⟩ = some (.string r) := fun w' hF => by
        have h1 := (HI.out.fr0 hF).cell b off rfl k (by omega)
        rw [← hr]; exact h1
      have hrs := HSZ.out k hlt
      rw [hr] at hrs
      have HC := hid hcell
      have HR := hid hrs
      have HLT := hid (And.intro hlt hk)
      have hltI : (k : Int) < n := by omega
      have HK := hid (show IntKind.i64.wrap ((k : Int) + 1) = (k : Int) + 1 from IntWalk.i64_in _ (by have := HMX.out.1; omega))
      have HLg := hid hA.out.1.log
      have hrf := room_facts hA.out.1.log
      have hRM : ∀ (w' : World) (T : List Thing), St (.of w) w' ([DkT D d, WlT B D x] ++ T) → Calls Try.prog 18 #[.pointer (some ⟨B, 0, none⟩)] w' fun e w'' => e = .returned (.int .i64 (x.room d : Nat)) ∧ St (.of w) w'' ([DkT D d, WlT B D x] ++ T) := fun w' T h => st_wroom h 1 0 rfl rfl HLg.out.i
      obtain ⟨m, hm⟩ : ∃ m, x.room d = m := ⟨_, rfl⟩
      rw [hm] at hrf hRM
      have HRM := hid hRM
      have HRF := hid hrf
      have hAPP : ∀ (w' : World) (T : List Thing) (q : ByteArray), q.size ≤ 140737488355328 → St (.of w) w' ([DkT D d, WlT B D x] ++ T) → (q.size = 0 ∨ 2048 < q.size ∨ 1 ≤ q.size ∧ q.size ≤ 2048 ∧ roomN d.sec.length < x.h.snap + x.h.log + (tf q).size) → Calls Try.prog 12 #[.pointer (some ⟨B, 0, none⟩), .string q] w' fun e w'' => e = .returned (.int .i64 (if 1 ≤ q.size ∧ q.size ≤ 2048 then 93 else 92)) ∧ St (.of w) w'' ([DkT D d, WlT B D x] ++ T) := fun w' T q hq h hc => by
        have h1 := st_wappend h 1 0 (B := B) (D := D) (x := x) (d := d) rfl rfl (by decide) HLg.out.i q hq hA.out.1.rawOk
        rcases hc with hc | hc | hc
        · rw [append_empty HLg.out.alive HLg.out.on (.inl hc)] at h1
          rw [if_neg (by omega)]
          exact h1
        · rw [append_empty HLg.out.alive HLg.out.on (.inr hc)] at h1
          rw [if_neg (by omega)]
          exact h1
        · rw [append_full HLg.out.alive HLg.out.on hc.1 hc.2.1 hc.2.2] at h1
          rw [if_pos ⟨hc.1, hc.2.1⟩]
          exact h1
      have HAPP := hid hAPP
      obtain ⟨sq, hsq⟩ : ∃ q, min (128 * hf) 17000 + 1 = q := ⟨_, rfl⟩
      have hsq1 : sq ≤ 17001 := by omega
      have hzq : wrap64 (min (wrap64 (128 * (hf : Int))) 17000 + 1) = ((sq : Nat) : Int) := by
        have hb := HMX.out.2.2
        rw [IntWalk.wrap64_in (128 * (hf : Int)) (by omega)]
        rw [IntWalk.wrap64_in _ (by omega)]
        omega
      have hSNP : ∀ (w' : World) (T : List Thing), St (.of w) w' ([DkT D d, WlT B D x] ++ T) → Calls Try.prog 17 #[.pointer (some ⟨B, 0, none⟩), .string (zeroS sq)] w' fun e w'' => e = .returned (.int .i64 92) ∧ St (.of w) w'' ([DkT D d, WlT B D x] ++ T) := fun w' T h => by
        have h1 := st_wsnapshot h 1 0 (B := B) (D := D) (x := x) (d := d) rfl rfl (by decide) HLg.out.i (zeroS sq) (by rw [zeroS_size]; omega) hA.out.1.rawOk
        rw [snapshot_long HLg.out.alive HLg.out.on (by
          have hlen := hA.out.2
          have hro := (roomN_ok HLg.out.fit).2.2.2
          rw [zeroS_size, hro, hlen]; omega)] at h1
        exact h1
      have HSNP := hid hSNP
      have HSQ := hid (And.intro hsq1 hzq)
      clear hsq hsq1 hzq hSNP
      obtain ⟨z, hz⟩ : ∃ z, (x.append d r).1 = z := ⟨_, rfl⟩
      obtain ⟨x', hx'⟩ : ∃ y, (x.append d r).2.1 = y := ⟨_, rfl⟩
      obtain ⟨d', hd'⟩ : ∃ y, (x.append d r).2.2 = y := ⟨_, rfl⟩
      obtain ⟨l', hA', hln⟩ := hA.out.1.append3 r
      rw [hx', hd'] at hA'
      rw [hd', hA.out.2] at hln
      have hap : ∀ (w' : World), St (.of w) w' ([DkT D d, WlT B D x] ++ []) → Calls Try.prog 12 #[.pointer (some ⟨B, 0, none⟩), .string r] w' fun e w'' => e = .returned (.int .i64 z) ∧ St (.of w) w'' [DkT D d', WlT B D x'] := fun w' h => by
        have h2 := st_wappend h 1 0 (B := B) (D := D) (x := x) (d := d) rfl rfl (by decide) HLg.out.i r (by have := HR.out; omega) hA.out.1.rawOk
        rw [hz, hx', hd'] at h2
        exact h2
      have HAPT := hid hap
      have HA' := hid (And.intro hA' hln)
      clear hap hz hx' hd' hA' hln
      have HM := hid hm
      have HSC := hid (st_sectors H 0 rfl HLg.out.wf)
      clear hcell hrs hr hrf hRM hAPP hm H hlt hk HS
      go_wp2_with fail
      refine HSC.out.mono ?_
      rintro e w2 ⟨g1, p1, rfl, H⟩
      have HR1 := hid (HRM.out w2 _ H)
      clear H HSC
      go_wp2_with fail
      refine HR1.out.mono ?_
      rintro e w3 ⟨rfl, H⟩
      have n1 : ¬ (m : Int) < 0 := by omega
      have n2 : ¬ (2048 : Int) < m := by have := HRF.out.1; omega
      have HAE := HAPP.out w3 _ ⟨#[]⟩ (by decide) H (.inl rfl)
      rw [if_neg (by decide)] at HAE
      have HAE := hid HAE
      clear H HR1
      go_wp2_with fail
      refine HAE.out.mono ?_
      rintro e w4 ⟨rfl, H⟩
      have HH := hid H
      clear H HAE
      go_wp2_with fail
      obtain ⟨wm, g, hmk, hFm, hcv⟩ := mkz w4 2049 2049 (rfl) (by decide)
      rw [hmk]
      simp only [Result.andThen]
      rw [Oper.upon_value]
      have hSm := HH.out.same hFm
      clear hmk hFm HH
      have HAE := HAPP.out wm _ (zeroS 2049) (by rw [zeroS_size]; decide) hSm (.inr (.inl (by rw [zeroS_size]; decide)))
      rw [if_neg (by rw [zeroS_size]; decide)] at HAE
      have HAE := hid HAE
      clear hSm
      go_wp2_with fail
      refine HAE.out.mono ?_
      rintro e w5 ⟨rfl, H⟩
      have HH := hid H
      clear H HAE hcv
      rcases (show m = 2048 ∨ (m ≤ 2047 ∧ m = 0) ∨ (m ≤ 2047 ∧ 1 ≤ m) by have := HRF.out.1; omega) with hm8 | ⟨hm8, hm0⟩ | ⟨hm8, hm0⟩
      · have n3 : ¬ (m : Int) < 2048 := by omega
        have hm1 : 1 ≤ m := by omega
        have HM8 := hid hm8
        have H := HH.out
        clear hm8
        have HAE := trivial
        have hcv := trivial
        clear HH
        have HH := hid H
        clear H HAE hcv
        go_wp2_with fail
        obtain ⟨wm, g, hmk, hFm, hcv⟩ := mkz w5 _ sq (HSQ.out.2) (by have := HSQ.out.1; omega)
        rw [hmk]
        simp only [Result.andThen]
        rw [Oper.upon_value]
        have hSm := HH.out.same hFm
        clear hmk hFm HH
        have HSN := hid (HSNP.out wm _ hSm)
        clear hSm
        go_wp2_with fail
        refine HSN.out.mono ?_
        rintro e w8 ⟨rfl, H⟩
        have HK1 := hid (st_sectors H 0 rfl HLg.out.wf)
        clear H HSN hcv
        go_wp2_with fail
        refine HK1.out.mono ?_
        rintro e w9 ⟨g2, p2, rfl, H⟩
        try simp only [List.nil_append, List.cons_append, List.set_cons_zero, List.set_cons_succ] at H
        have HK2 := hid (st_same H (H.in_ 3 rfl) (H.in_ 2 rfl))
        clear H HK1
        go_wp2_with fail
        refine HK2.out.mono ?_
        rintro e w10 ⟨rfl, H⟩
        have HK3 := hid (HRM.out w10 [] (H.take 2))
        clear H HK2
        go_wp2_with fail
        refine HK3.out.mono ?_
        rintro e w11 ⟨rfl, H⟩
        have hdd := st_wdead H 1 (B := B) (D := D) (x := x) rfl
        rw [HLg.out.alive] at hdd
        have HK4 := hid hdd
        clear H HK3 hdd
        go_wp2_with fail
        refine HK4.out.mono ?_
        rintro e w12 ⟨rfl, H⟩
        have HK5 := hid (st_clone H 0 rfl HLg.out.wf (by have := hA.out.1.rawOk; omega))
        clear H HK4
        go_wp2_with fail
        refine HK5.out.mono ?_
        rintro e w13 ⟨C, rfl, H⟩
        try simp only [List.nil_append, List.cons_append, List.set_cons_zero, List.set_cons_succ] at H
        have HK6 := hid (st_wclone H 1 rfl C)
        clear H HK5
        go_wp2_with fail
        refine HK6.out.mono ?_
        rintro e w14 ⟨N, rfl, H⟩
        try simp only [List.nil_append, List.cons_append, List.set_cons_zero, List.set_cons_succ] at H
        have HH := hid H
        clear H HK6
        go_wp2_with fail
        obtain ⟨wm, g, hmk, hFm, hcv⟩ := mkz w14 _ m (rfl) (by omega)
        rw [hmk]
        simp only [Result.andThen]
        rw [Oper.upon_value]
        have hSm := HH.out.same hFm
        clear hmk hFm HH
        have hca := st_wappend hSm 3 2 (B := N) (D := C) (x := x) (d := d) rfl rfl (by decide) HLg.out.i (zeroS m) (by rw [zeroS_size]; omega) hA.out.1.rawOk
        rw [show (x.append d (zeroS m)).1 = 0 from by have := room_ok hA.out.1 (by rw [HM.out]; exact hm1); rw [HM.out] at this; exact this] at hca
        have HCA := hid hca
        clear hSm hca
        go_wp2_with fail
        refine HCA.out.mono ?_
        rintro e w16 ⟨rfl, H⟩
        have HK7 := hid (HRM.out w16 [] (H.take 2))
        clear H
        go_wp2_with fail
        refine HK7.out.mono ?_
        rintro e w17 ⟨rfl, H⟩
        clear HK7
        have c1 := HC.out w17 H.fr
        have HH := hid H
        clear H
        go_wp2_with fail
        refine (HAPT.out w17 HH.out).mono ?_
        rintro e w18 ⟨rfl, H⟩
        have HEND := hid H
        clear H HH c1
        have hwk := HK.out
        go_wp2_with fail
        go_roundw
        case rel => exact ⟨k + 1, x', d', l', HLT.out.1, by go_num, HA', HEND.out⟩
        case measure => have := HLT.out.1; simp [intOf]; omega
      · subst hm0
        have n3 : ((0 : Nat) : Int) < 2048 := by omega
        go_wp2_with fail
        obtain ⟨wm, g, hmk, hFm, hcv⟩ := mkz w5 1 1 (rfl) (by omega)
        rw [hmk]
        simp only [Result.andThen]
        rw [Oper.upon_value]
        have hSm := HH.out.same hFm
        clear hmk hFm HH
        have HAE := HAPP.out wm _ (zeroS 1) (by rw [zeroS_size]; omega) hSm (.inr (.inr (by rw [zeroS_size]; have := HRF.out.2.2 (by omega); exact ⟨by omega, by omega, by rw [tf_size, zeroS_size]; exact this⟩)))
        rw [if_pos (by rw [zeroS_size]; omega)] at HAE
        have HAE := hid HAE
        clear hSm
        go_wp2_with fail
        refine HAE.out.mono ?_
        rintro e w7 ⟨rfl, H⟩
        have HH := hid H
        clear H HAE hcv
        go_wp2_with fail
        obtain ⟨wm, g, hmk, hFm, hcv⟩ := mkz w7 _ sq (HSQ.out.2) (by have := HSQ.out.1; omega)
        rw [hmk]
        simp only [Result.andThen]
        rw [Oper.upon_value]
        have hSm := HH.out.same hFm
        clear hmk hFm HH
        have HSN := hid (HSNP.out wm _ hSm)
        clear hSm
        go_wp2_with fail
        refine HSN.out.mono ?_
        rintro e w8 ⟨rfl, H⟩
        have HK1 := hid (st_sectors H 0 rfl HLg.out.wf)
        clear H HSN hcv
        go_wp2_with fail
        refine HK1.out.mono ?_
        rintro e w9 ⟨g2, p2, rfl, H⟩
        try simp only [List.nil_append, List.cons_append, List.set_cons_zero, List.set_cons_succ] at H
        have HK2 := hid (st_same H (H.in_ 3 rfl) (H.in_ 2 rfl))
        clear H HK1
        go_wp2_with fail
        refine HK2.out.mono ?_
        rintro e w10 ⟨rfl, H⟩
        have HK3 := hid (HRM.out w10 [] (H.take 2))
        clear H HK2
        go_wp2_with fail
        refine HK3.out.mono ?_
        rintro e w11 ⟨rfl, H⟩
        have hdd := st_wdead H 1 (B := B) (D := D) (x := x) rfl
        rw [HLg.out.alive] at hdd
        have HK4 := hid hdd
        clear H HK3 hdd
        go_wp2_with fail
        refine HK4.out.mono ?_
        rintro e w12 ⟨rfl, H⟩
        have HK5 := hid (st_clone H 0 rfl HLg.out.wf (by have := hA.out.1.rawOk; omega))
        clear H HK4
        go_wp2_with fail
        refine HK5.out.mono ?_
        rintro e w13 ⟨C, rfl, H⟩
        try simp only [List.nil_append, List.cons_append, List.set_cons_zero, List.set_cons_succ] at H
        have HK6 := hid (st_wclone H 1 rfl C)
        clear H HK5
        go_wp2_with fail
        refine HK6.out.mono ?_
        rintro e w14 ⟨N, rfl, H⟩
        try simp only [List.nil_append, List.cons_append, List.set_cons_zero, List.set_cons_succ] at H
        have HH := hid H
        clear H HK6
        go_wp2_with fail
        refine (HRM.out w14 [] (HH.out.take 2)).mono ?_
        rintro e w17 ⟨rfl, H⟩
        clear HH
        have c1 := HC.out w17 H.fr
        have HH := hid H
        clear H
        go_wp2_with fail
        refine (HAPT.out w17 HH.out).mono ?_
        rintro e w18 ⟨rfl, H⟩
        have HEND := hid H
        clear H HH c1
        have hwk := HK.out
        go_wp2_with fail
        go_roundw
        case rel => exact ⟨k + 1, x', d', l', HLT.out.1, by go_num, HA', HEND.out⟩
        case measure => have := HLT.out.1; simp [intOf]; omega
      · have n3 : (m : Int) < 2048 := by omega
        have w6 : IntKind.i64.wrap ((m : Int) + 1) = ((m + 1 : Nat) : Int) := by rw [show ((m + 1 : Nat) : Int) = (m : Int) + 1 from Int.natCast_add _ _]; exact IntWalk.i64_in _ (by omega)
        go_wp2_with fail
        obtain ⟨wm, g, hmk, hFm, hcv⟩ := mkz w5 ((m : Int) + 1) (m + 1) (by omega) (by omega)
        rw [hmk]
        simp only [Result.andThen]
        rw [Oper.upon_value]
        have hSm := HH.out.same hFm
        clear hmk hFm HH
        have HAE := HAPP.out wm _ (zeroS (m + 1)) (by rw [zeroS_size]; omega) hSm (.inr (.inr (by rw [zeroS_size]; have := HRF.out.2.2 (by omega); exact ⟨by omega, by omega, by rw [tf_size, zeroS_size]; exact this⟩)))
        rw [if_pos (by rw [zeroS_size]; omega)] at HAE
        have HAE := hid HAE
        clear hSm w6
        go_wp2_with fail
        refine HAE.out.mono ?_
        rintro e w7 ⟨rfl, H⟩
        have HH := hid H
        clear H HAE hcv
        go_wp2_with fail
        obtain ⟨wm, g, hmk, hFm, hcv⟩ := mkz w7 _ sq (HSQ.out.2) (by have := HSQ.out.1; omega)
        rw [hmk]
        simp only [Result.andThen]
        rw [Oper.upon_value]
        have hSm := HH.out.same hFm
        clear hmk hFm HH
        have HSN := hid (HSNP.out wm _ hSm)
        clear hSm
        go_wp2_with fail
        refine HSN.out.mono ?_
        rintro e w8 ⟨rfl, H⟩
        have HK1 := hid (st_sectors H 0 rfl HLg.out.wf)
        clear H HSN hcv
        go_wp2_with fail
        refine HK1.out.mono ?_
        rintro e w9 ⟨g2, p2, rfl, H⟩
        try simp only [List.nil_append, List.cons_append, List.set_cons_zero, List.set_cons_succ] at H
        have HK2 := hid (st_same H (H.in_ 3 rfl) (H.in_ 2 rfl))
        clear H HK1
        go_wp2_with fail
        refine HK2.out.mono ?_
        rintro e w10 ⟨rfl, H⟩
        have HK3 := hid (HRM.out w10 [] (H.take 2))
        clear H HK2
        go_wp2_with fail
        refine HK3.out.mono ?_
        rintro e w11 ⟨rfl, H⟩
        have hdd := st_wdead H 1 (B := B) (D := D) (x := x) rfl
        rw [HLg.out.alive] at hdd
        have HK4 := hid hdd
        clear H HK3 hdd
        go_wp2_with fail
        refine HK4.out.mono ?_
        rintro e w12 ⟨rfl, H⟩
        have HK5 := hid (st_clone H 0 rfl HLg.out.wf (by have := hA.out.1.rawOk; omega))
        clear H HK4
        go_wp2_with fail
        refine HK5.out.mono ?_
        rintro e w13 ⟨C, rfl, H⟩
        try simp only [List.nil_append, List.cons_append, List.set_cons_zero, List.set_cons_succ] at H
        have HK6 := hid (st_wclone H 1 rfl C)
        clear H HK5
        go_wp2_with fail
        refine HK6.out.mono ?_
        rintro e w14 ⟨N, rfl, H⟩
        try simp only [List.nil_append, List.cons_append, List.set_cons_zero, List.set_cons_succ] at H
        have HH := hid H
        clear H HK6
        go_wp2_with fail
        obtain ⟨wm, g, hmk, hFm, hcv⟩ := mkz w14 _ m (rfl) (by omega)
        rw [hmk]
        simp only [Result.andThen]
        rw [Oper.upon_value]
        have hSm := HH.out.same hFm
        clear hmk hFm HH
        have hca := st_wappend hSm 3 2 (B := N) (D := C) (x := x) (d := d) rfl rfl (by decide) HLg.out.i (zeroS m) (by rw [zeroS_size]; omega) hA.out.1.rawOk
        rw [show (x.append d (zeroS m)).1 = 0 from by have := room_ok hA.out.1 (by rw [HM.out]; exact hm0); rw [HM.out] at this; exact this] at hca
        have HCA := hid hca
        clear hSm hca
        go_wp2_with fail
        refine HCA.out.mono ?_
        rintro e w16 ⟨rfl, H⟩
        have HK7 := hid (HRM.out w16 [] (H.take 2))
        clear H
        go_wp2_with fail
        refine HK7.out.mono ?_
        rintro e w17 ⟨rfl, H⟩
        clear HK7
        have c1 := HC.out w17 H.fr
        have HH := hid H
        clear H
        go_wp2_with fail
        refine (HAPT.out w17 HH.out).mono ?_
        rintro e w18 ⟨rfl, H⟩
        have HEND := hid H
        clear H HH c1
        have hwk := HK.out
        go_wp2_with fail
        go_roundw
        case rel => exact ⟨k + 1, x', d', l', HLT.out.1, by go_num, HA', HEND.out⟩
        case measure => have := HLT.out.1; simp [intOf]; omega
    · obtain rfl : k = n := by omega
      have HF := hid (st_fixed09 H)
      clear H HS
      go_wp2_with fail
      refine HF.out.mono ?_
      rintro e w2 ⟨rfl, H⟩
      have hfr := hid H.fr
      clear H
      go_wp2_with fail
      go_ret
      exact ⟨rfl, hfr.out⟩
theorem walrooms_walk (w : World) (half : Int) (h1 : -9223372036854775808 ≤ half) (h2 : half ≤ 9223372036854775807) (a : Option Addr) (n cap : Nat) (V : Nat → Value) (hS : SlIn w 1 16 a n cap V) (hq : ∀ i, i < n → Str (V (i * 1))) :
    Calls Try.prog 6 #[.int .i64 half, .slice a n cap] w fun e w' => e = .returned (.bool true) ∧ Fr [] w w' := by
  obtain ⟨ss, hl, hI, _, hsz⟩ := strs_of hS hq
  exact walrooms_any w half h1 h2 a n cap ss hl hI hsz
end Go.Proofs.Ythghnlgojmedgaa
