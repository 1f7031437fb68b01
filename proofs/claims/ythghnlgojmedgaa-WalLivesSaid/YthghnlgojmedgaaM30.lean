/-
  Merged, in build order: WalTells.
-/
import Derived.Deep.CutRange
import Derived.Deep.Cut
import Derived.Test.YthghnlgojmedgaaM28
/-
  The walk of WalTells.
-/
namespace Go.Proofs.Ythghnlgojmedgaa
open Go.RowKit
set_option linter.unusedVariables false
set_option linter.unusedSimpArgs false




/-- A log behind k calls. -/
structure Tl (k : Nat) (x : WS) (d : DS) (s : ByteArray) (l : List ByteArray) : Prop where
  log : Log x d s l
  armed : d.armed = 0
  raw : d.raw.length ≤ 600 * k + 1
theorem Tl.le {k : Nat} {x : WS} {d : DS} {s : ByteArray} {l : List ByteArray} (T : Tl k x d s l) : Tl (k + 1) x d s l := ⟨T.log, T.armed, by have := T.raw; omega⟩
theorem Tl.append {k : Nat} {x : WS} {d : DS} {s : ByteArray} {l : List ByteArray} (T : Tl k x d s l) (r : ByteArray) :
    ((x.append d r).1 ≠ 0 ∧ (x.append d r).2 = (x, d)) ∨ ((x.append d r).1 = 0 ∧ Tl (k + 1) (x.append d r).2.1 (x.append d r).2.2 s (l ++ [r])) := by
  rcases log_append T.log r T.armed with ⟨h0, _, h⟩ | ⟨h1, _, h2, h3, h4, _⟩
  · exact .inl ⟨h0, h⟩
  · exact .inr ⟨h1, h2, h3, by have := T.raw; omega⟩
theorem Tl.snapshot {k : Nat} {x : WS} {d : DS} {s : ByteArray} {l : List ByteArray} (T : Tl k x d s l) (r : ByteArray) :
    ((x.snapshot d r).1 ≠ 0 ∧ (x.snapshot d r).2 = (x, d)) ∨ ((x.snapshot d r).1 = 0 ∧ Tl (k + 1) (x.snapshot d r).2.1 (x.snapshot d r).2.2 r []) := by
  rcases log_snapshot T.log r T.armed with ⟨h0, _, h⟩ | ⟨h1, h2, h3, h4, _⟩
  · exact .inl ⟨h0, h⟩
  · exact .inr ⟨h1, h2, h3, by have := T.raw; omega⟩
theorem Tl.ok {k : Nat} {x : WS} {d : DS} {s : ByteArray} {l : List ByteArray} (T : Tl k x d s l) (h : k ≤ 4194304) : (d.raw.length + 2000) * 24 ≤ 140737488355328 := by
  have := T.raw; omega

section
variable {W : Base} {w : World} {R : List Thing}
theorem St.rowIn (H : St W w R) (i : Nat) {a : Option Addr} {c : Nat} {l : List ByteArray} (hi : R[i]? = some (RowT 9 1 (.slice a l.length c) l.length (l.map Value.string))) : In w 1 a l.length c (strV l) := by
  obtain ⟨a', c', e, h⟩ := H.rowStr i hi
  simp only [Value.slice.injEq, true_and] at e
  obtain ⟨rfl, rfl⟩ := e
  exact h
end

set_option maxHeartbeats 2400000 in
set_option maxRecDepth 100000 in
theorem waltells_any (w : World) (half : Int) (hl1 : -9223372036854775808 ≤ half) (hl2 : half ≤ 9223372036854775807) (a : Option Addr) (n cap : Nat) (ss : List ByteArray) (hn : ss.length = n) (hI : In w 1 a n cap (strV ss)) (hsz : ∀ i, i < n → (sAt ss i).size ≤ 140737488351232)
    (am : Option Addr) (nm cm : Nat) (ms : List Int) (hM : In w 1 am nm cm (mV ms)) (hbig : n ≤ 1048576) :
    Calls Try.prog 4 #[.int .i64 half, .slice a n cap, .slice am nm cm] w fun e w' => e = .returned (.bool true) ∧ Fr [] w w' := by
  have H := St.refl w
  have HI := hid hI
  have HSZ := hid hsz
  have HM := hid hM
  have hm := hI.max
  have hmm := hM.max
  clear hI hsz hM
  by_cases hbad : half < 1 ∨ 512 < half
  · have HF := hid (st_fixed09 H)
    clear H hbig
    by_cases h1 : half < 1
    · clear hbad
      go_enter Try.func4, Try.ntmps4
      go_wp2_with fail
      refine HF.out.mono ?_
      rintro e w1 ⟨rfl, H⟩
      go_wp2_with fail
      go_ret
      exact ⟨rfl, H.fr⟩
    · have h2 : 512 < half := by omega
      clear hbad
      go_enter Try.func4, Try.ntmps4
      go_wp2_with fail
      refine HF.out.mono ?_
      rintro e w1 ⟨rfl, H⟩
      go_wp2_with fail
      go_ret
      exact ⟨rfl, H.fr⟩
  obtain ⟨hf, rfl⟩ : ∃ hf : Nat, half = hf := ⟨half.toNat, by omega⟩
  have h1 : 1 ≤ hf := by omega
  have h2 : hf ≤ 512 := by omega
  have HL := hid (st_laid H hf h1 h2)
  have b1 : ¬ (hf : Int) < 1 := by omega
  have b2 : ¬ (512 : Int) < hf := by omega
  have HMX := hid (And.intro hm (And.intro hn (And.intro hmm hbig)))
  clear H hbad hl1 hl2 h1 h2 hm hn hmm hbig
  go_enter Try.func4, Try.ntmps4
  go_wp2_with fail
  refine HL.out.mono ?_
  rintro e w1 ⟨D, B, d0, rfl, H, hl⟩
  have H : St (.of w) w1 [DkT D d0, WlT B D ⟨fmtH, 0, false⟩] := by simpa using H
  have HE := hid H.empty
  have HA := hid (show Tl 0 ⟨fmtH, 0, false⟩ d0 ⟨#[]⟩ [] from ⟨hl.out.1, hl.out.2.1, by rw [hl.out.2.2.1]; decide⟩)
  clear H hl HL b1 b2
  go_wp2_with fail
  go_loopw [9, 10, 11] (fun sv rv iv wr => ∃ (k : Nat) (x : WS) (d : DS) (s : ByteArray) (l : List ByteArray) (a : Option Addr) (c : Nat), k ≤ n ∧ iv = .int .i64 k ∧ sv = .string s ∧ rv = .slice a l.length c ∧ Hid (Tl k x d s l) ∧ St (.of w) wr [DkT D d, WlT B D x, RowT 9 1 (.slice a l.length c) l.length (l.map Value.string)]) (fun _ _ iv _ => n - (intOf iv).toNat)
  case atStart => exact ⟨0, _, _, _, [], _, _, Nat.zero_le _, rfl, rfl, rfl, HA, by simpa using HE.out⟩
  case round =>
    obtain ⟨k, x, d, s, l, ra, rc, hk, rfl, rfl, rfl, hT, H⟩ := hrel
    by_cases hlt : k < n
    · obtain ⟨b, off, rfl⟩ := HI.out.sm (by omega)
      obtain ⟨r, hr⟩ : ∃ r, sAt ss k = r := ⟨_, rfl⟩
      have hcell : ∀ w', Fr [] w w' → w'.cell? ⟨b, off + k, none⟩ = some (.string r) := fun w' hF => by
        have h1 := (HI.out.fr0 hF).cell b off rfl k (by omega)
        rw [← hr]; exact h1
      have hrs := HSZ.out k hlt
      rw [hr] at hrs
      have HC := hid hcell
      have HR := hid hrs
      have HLT := hid (And.intro hlt hk)
      have hltI : (k : Int) < n := by omega
      have HK := hid (show IntKind.i64.wrap ((k : Int) + 1) = (k : Int) + 1 from IntWalk.i64_in _ (by have := HMX.out.1; omega))
      have HRW := hid (hT.out.ok (by have := HMX.out.2.2.2; omega))
      have c1 := HC.out wr H.fr
      have HH := hid H
      clear hcell hrs hr H hlt hk HE HA
      obtain ⟨bb, hbb⟩ : ∃ bb, (decide (0 < nm) && (mAt ms (k % nm) == 1)) = bb := ⟨_, rfl⟩
      have HBB := hid hbb
      clear hbb
      go_upto_region 10 with (fail)
      go_cut [50] from 31 to 114 (fun s50 wx => s50 = .bool bb ∧ wx = wr)
      case first =>
        by_cases hz : nm = 0
        · subst hz
          have b0 : decide ((0 : Int) < ((0 : Nat) : Int)) = false := by decide
          have hb1 : bb = false := by rw [← HBB.out]; rfl
          subst hb1
          go_wp2_with fail
          go_meet
          exact ⟨rfl, rfl⟩
        · have hkm : k % nm < nm := Nat.mod_lt _ (by omega)
          obtain ⟨bm, om, rfl⟩ := HM.out.sm (by omega)
          have hcm : wr.cell? ⟨bm, om + k % nm, none⟩ = some (.int .i64 (mAt ms (k % nm))) := (HM.out.fr0 HH.out.fr).cell bm om rfl (k % nm) (by omega)
          have e1 : max (1 : Int) (nm : Int) = (nm : Int) := by omega
          have e2 : (k : Int).tmod (nm : Int) = ((k % nm : Nat) : Int) := by rw [Int.ofNat_tmod]
          have e3 : ((nm : Int) == 0) = false := by rw [beq_eq_false_iff_ne]; omega
          have e4 : decide (0 < nm) = true := decide_eq_true (by omega)
          have e5 : ((k % nm : Nat) : Int) < (nm : Int) := by omega
          have hb2 : (mAt ms (k % nm) == 1) = bb := by have := HBB.out; rw [decide_eq_true (by omega : 0 < nm)] at this; simpa using this
          obtain ⟨km, hkme⟩ : ∃ km, k % nm = km := ⟨_, rfl⟩
          rw [hkme] at hcm e2 e5 hb2
          obtain ⟨mk, hmk⟩ : ∃ mk, mAt ms km = mk := ⟨_, rfl⟩
          rw [hmk] at hcm hb2
          clear hkm hz hkme hmk c1
          go_wp2_with fail
          go_meet
          exact ⟨rfl, rfl⟩
      case rest =>
        obtain ⟨rfl, rfl⟩ := hcut
        cases bb
        case false =>
          have hap := st_wappend HH.out 1 0 (B := B) (D := D) (x := x) (d := d) rfl rfl (by decide) hT.out.log.i r (by have := HR.out; omega) HRW.out
          rcases hT.out.append r with ⟨hz, hsame⟩ | ⟨hz, hA'⟩
          · obtain ⟨z, hzz⟩ : ∃ z, (x.append d r).1 = z := ⟨_, rfl⟩
            rw [hsame, hzz] at hap
            rw [hzz] at hz
            have hzb : (z == 0) = false := by rw [beq_eq_false_iff_ne]; exact hz
            have HAP := hid hap
            clear hap hsame hzz hz
            go_wp2_with fail
            refine HAP.out.mono ?_
            rintro e w4 ⟨rfl, H⟩
            have HH := hid (show St (.of w) w4 [DkT D d, WlT B D x, RowT 9 1 (.slice ra l.length rc) l.length (l.map Value.string)] from H)
            clear H c1 HAP
            have HT := hid hT.out.le
            have HO := hid (st_lopen (x := x) HH.out 0 rfl HT.out.log.wf HT.out.log.on HT.out.log.fit HT.out.log.cnt)
            clear HH
            go_wp2_with fail
            refine HO.out.mono ?_
            rintro e w15 ⟨B1, p1, rfl, H⟩
            rw [HT.out.log.eq] at H
            have H : St (.of w) w15 [DkT D d, WlT B D x, RowT 9 1 (.slice (ra) (l).length (rc)) (l).length ((l).map Value.string), WvT 9 1 p1 (l).length (strV (l)), WlT B1 D x] := by simpa using H
            have HIN := hid (H.rowIn 2 (a := ra) (c := rc) (l := l) rfl)
            have HSM := hid (st_same H (H.wvIn 3 HT.out.log.len.1 rfl) HIN.out)
            have hbe : ((s).toList == (s).toList) = true := beq_self_eq_true _
            clear H HO
            go_wp2_with fail
            refine HSM.out.mono ?_
            rintro e w16 ⟨rfl, H⟩
            have hrc := st_wrecords H 1 (B := B) (D := D) (x := x) rfl
            rw [HT.out.log.n] at hrc
            have HRC := hid hrc
            clear H HSM hrc
            go_wp2_with fail
            refine HRC.out.mono ?_
            rintro e w17 ⟨rfl, H⟩
            have hr1 := st_wroom H 4 0 (B := B1) (D := D) (x := x) (d := d) rfl rfl HT.out.log.i
            obtain ⟨m, hm⟩ : ∃ m, (x).room d = m := ⟨_, rfl⟩
            rw [hm] at hr1
            have HR1 := hid hr1
            have HM := hid hm
            clear H HRC hr1 hm
            go_wp2_with fail
            refine HR1.out.mono ?_
            rintro e w18 ⟨rfl, H⟩
            have hr2 := st_wroom H 1 0 (B := B) (D := D) (x := x) (d := d) rfl rfl HT.out.log.i
            rw [HM.out] at hr2
            have HR2 := hid hr2
            clear H HR1 hr2
            go_wp2_with fail
            refine HR2.out.mono ?_
            rintro e w19 ⟨rfl, H⟩
            have HEND := hid (H.take 3)
            clear H HR2
            have hwk := HK.out
            go_wp2_with fail
            go_roundw
            case rel => exact ⟨k + 1, x, d, s, l, ra, rc, HLT.out.1, by go_num, rfl, rfl, HT, HEND.out⟩
            case measure => have := HLT.out.1; simp [intOf]; omega
          · obtain ⟨x', hx'⟩ : ∃ y, (x.append d r).2.1 = y := ⟨_, rfl⟩
            obtain ⟨d', hd'⟩ : ∃ y, (x.append d r).2.2 = y := ⟨_, rfl⟩
            rw [hz, hx', hd'] at hap
            rw [hx', hd'] at hA'
            have HAP := hid hap
            have HA' := hid hA'
            clear hap hx' hd' hz hA'
            go_wp2_with fail
            refine HAP.out.mono ?_
            rintro e w4 ⟨rfl, H⟩
            have c2 := HC.out w4 H.fr
            have hll := HA'.out.log.len.1
            rw [List.length_append, List.length_singleton] at hll
            obtain ⟨i0, hi0, hz0, hz1, hz2⟩ := info_parts info_string
            have HIN := hid (And.intro hi0 (And.intro hz0 (And.intro hz1 hz2)))
            have HROW := hid (St.append (H.alloc_ (.cells #[.string r] 9)) 2 (e := 9) (size := 1) (n := l.length) (v := .slice ra l.length rc) (xs := l.map Value.string) rfl)
            have HLEN := hid hll
            clear H c1 hi0 hz0 hz1 hz2 HAP hll
            go_wp2_with (at_builtin; refine wpList_append_blk rfl (.tmp 70) (.tmp 75) 22 rfl 9 i0 (.string ByteArray.empty) 1 16 Try.underlying22 HIN.out.1 HIN.out.2.1 HIN.out.2.2.1 HIN.out.2.2.2 rfl (by decide) (.slice ra l.length rc) l.length (l.map Value.string) rfl HROW.out.1 ⟨w4.heap.size, 0, none⟩ 1 1 [.string r] rfl rfl (news_alloc w4 [.string r] 9) (by intro u hu; simp at hu; subst hu; rfl) (by have := HLEN.out; unfold maxLen; omega) (by have := HLEN.out; omega) ?_)
            intro v' w9 ho hF hb hnn
            have H9 := HROW.out.2 v' w9 (l.length + 1) (l.map Value.string ++ [.string r]) ho (by simpa using hF) (by simpa using hb)
            obtain ⟨l', hl'⟩ : ∃ l', l ++ [r] = l' := ⟨_, rfl⟩
            rw [show l.length + 1 = (l ++ [r]).length by simp, show l.map Value.string ++ [.string r] = (l ++ [r]).map Value.string by simp, hl'] at H9
            rw [hl'] at HA'
            have H9 : St (.of w) w9 [DkT D d', WlT B D x', RowT 9 1 v' l'.length (l'.map Value.string)] := H9
            obtain ⟨a', c', rfl, _⟩ := H9.rowStr 2 (v := v') (l := l') rfl
            have HH := hid H9
            have HT := HA'
            clear ho hF hb hnn HROW c2 H9 hl' HLEN HIN HA'
            go_wp2_with fail
            have HO := hid (st_lopen (x := x') HH.out 0 rfl HT.out.log.wf HT.out.log.on HT.out.log.fit HT.out.log.cnt)
            clear HH
            go_wp2_with fail
            refine HO.out.mono ?_
            rintro e w15 ⟨B1, p1, rfl, H⟩
            rw [HT.out.log.eq] at H
            have H : St (.of w) w15 [DkT D d', WlT B D x', RowT 9 1 (.slice (a') (l').length (c')) (l').length ((l').map Value.string), WvT 9 1 p1 (l').length (strV (l')), WlT B1 D x'] := by simpa using H
            have HIN := hid (H.rowIn 2 (a := a') (c := c') (l := l') rfl)
            have HSM := hid (st_same H (H.wvIn 3 HT.out.log.len.1 rfl) HIN.out)
            have hbe : ((s).toList == (s).toList) = true := beq_self_eq_true _
            clear H HO
            go_wp2_with fail
            refine HSM.out.mono ?_
            rintro e w16 ⟨rfl, H⟩
            have hrc := st_wrecords H 1 (B := B) (D := D) (x := x') rfl
            rw [HT.out.log.n] at hrc
            have HRC := hid hrc
            clear H HSM hrc
            go_wp2_with fail
            refine HRC.out.mono ?_
            rintro e w17 ⟨rfl, H⟩
            have hr1 := st_wroom H 4 0 (B := B1) (D := D) (x := x') (d := d') rfl rfl HT.out.log.i
            obtain ⟨m, hm⟩ : ∃ m, (x').room d' = m := ⟨_, rfl⟩
            rw [hm] at hr1
            have HR1 := hid hr1
            have HM := hid hm
            clear H HRC hr1 hm
            go_wp2_with fail
            refine HR1.out.mono ?_
            rintro e w18 ⟨rfl, H⟩
            have hr2 := st_wroom H 1 0 (B := B) (D := D) (x := x') (d := d') rfl rfl HT.out.log.i
            rw [HM.out] at hr2
            have HR2 := hid hr2
            clear H HR1 hr2
            go_wp2_with fail
            refine HR2.out.mono ?_
            rintro e w19 ⟨rfl, H⟩
            have HEND := hid (H.take 3)
            clear H HR2
            have hwk := HK.out
            go_wp2_with fail
            go_roundw
            case rel => exact ⟨k + 1, x', d', s, l', a', c', HLT.out.1, by go_num, rfl, rfl, HT, HEND.out⟩
            case measure => have := HLT.out.1; simp [intOf]; omega
        case true =>
          have hsn := st_wsnapshot HH.out 1 0 (B := B) (D := D) (x := x) (d := d) rfl rfl (by decide) hT.out.log.i r (by have := HR.out; omega) HRW.out
          rcases hT.out.snapshot r with ⟨hz, hsame⟩ | ⟨hz, hA'⟩
          · obtain ⟨z, hzz⟩ : ∃ z, (x.snapshot d r).1 = z := ⟨_, rfl⟩
            rw [hsame, hzz] at hsn
            rw [hzz] at hz
            have hzb : (z == 0) = false := by rw [beq_eq_false_iff_ne]; exact hz
            have HAP := hid hsn
            clear hsn hsame hzz hz
            go_wp2_with fail
            refine HAP.out.mono ?_
            rintro e w4 ⟨rfl, H⟩
            have HH := hid (show St (.of w) w4 [DkT D d, WlT B D x, RowT 9 1 (.slice ra l.length rc) l.length (l.map Value.string)] from H)
            clear H c1 HAP
            have HT := hid hT.out.le
            have HO := hid (st_lopen (x := x) HH.out 0 rfl HT.out.log.wf HT.out.log.on HT.out.log.fit HT.out.log.cnt)
            clear HH
            go_wp2_with fail
            refine HO.out.mono ?_
            rintro e w15 ⟨B1, p1, rfl, H⟩
            rw [HT.out.log.eq] at H
            have H : St (.of w) w15 [DkT D d, WlT B D x, RowT 9 1 (.slice (ra) (l).length (rc)) (l).length ((l).map Value.string), WvT 9 1 p1 (l).length (strV (l)), WlT B1 D x] := by simpa using H
            have HIN := hid (H.rowIn 2 (a := ra) (c := rc) (l := l) rfl)
            have HSM := hid (st_same H (H.wvIn 3 HT.out.log.len.1 rfl) HIN.out)
            have hbe : ((s).toList == (s).toList) = true := beq_self_eq_true _
            clear H HO
            go_wp2_with fail
            refine HSM.out.mono ?_
            rintro e w16 ⟨rfl, H⟩
            have hrc := st_wrecords H 1 (B := B) (D := D) (x := x) rfl
            rw [HT.out.log.n] at hrc
            have HRC := hid hrc
            clear H HSM hrc
            go_wp2_with fail
            refine HRC.out.mono ?_
            rintro e w17 ⟨rfl, H⟩
            have hr1 := st_wroom H 4 0 (B := B1) (D := D) (x := x) (d := d) rfl rfl HT.out.log.i
            obtain ⟨m, hm⟩ : ∃ m, (x).room d = m := ⟨_, rfl⟩
            rw [hm] at hr1
            have HR1 := hid hr1
            have HM := hid hm
            clear H HRC hr1 hm
            go_wp2_with fail
            refine HR1.out.mono ?_
            rintro e w18 ⟨rfl, H⟩
            have hr2 := st_wroom H 1 0 (B := B) (D := D) (x := x) (d := d) rfl rfl HT.out.log.i
            rw [HM.out] at hr2
            have HR2 := hid hr2
            clear H HR1 hr2
            go_wp2_with fail
            refine HR2.out.mono ?_
            rintro e w19 ⟨rfl, H⟩
            have HEND := hid (H.take 3)
            clear H HR2
            have hwk := HK.out
            go_wp2_with fail
            go_roundw
            case rel => exact ⟨k + 1, x, d, s, l, ra, rc, HLT.out.1, by go_num, rfl, rfl, HT, HEND.out⟩
            case measure => have := HLT.out.1; simp [intOf]; omega
          · obtain ⟨x', hx'⟩ : ∃ y, (x.snapshot d r).2.1 = y := ⟨_, rfl⟩
            obtain ⟨d', hd'⟩ : ∃ y, (x.snapshot d r).2.2 = y := ⟨_, rfl⟩
            rw [hz, hx', hd'] at hsn
            rw [hx', hd'] at hA'
            have HAP := hid hsn
            have HT := hid hA'
            clear hsn hx' hd' hz hA'
            go_wp2_with fail
            refine HAP.out.mono ?_
            rintro e w4 ⟨rfl, H⟩
            have c2 := HC.out w4 H.fr
            have HE2 := hid (show St (.of w) (w4.alloc (.cells #[] 9)) [DkT D d', WlT B D x', RowT 9 1 (.slice (some ⟨w4.heap.size, 0, none⟩) ([] : List ByteArray).length 0) ([] : List ByteArray).length (([] : List ByteArray).map Value.string)] from H.empty.sub (B := [RowT 9 1 (.slice ra l.length rc) l.length (l.map Value.string)]) (List.Perm.cons _ (List.Perm.cons _ (List.Perm.swap _ _ _))))
            obtain ⟨gn, hgn⟩ : ∃ gn, w4.heap.size = gn := ⟨_, rfl⟩
            rw [hgn] at HE2
            clear H c1 HAP
            go_wp2_with fail
            generalize w4.alloc (.cells #[] 9) = w5 at HE2 ⊢
            have HH := hid HE2.out
            clear HE2 hgn
            have HO := hid (st_lopen (x := x') HH.out 0 rfl HT.out.log.wf HT.out.log.on HT.out.log.fit HT.out.log.cnt)
            clear HH
            go_wp2_with fail
            refine HO.out.mono ?_
            rintro e w15 ⟨B1, p1, rfl, H⟩
            rw [HT.out.log.eq] at H
            have H : St (.of w) w15 [DkT D d', WlT B D x', RowT 9 1 (.slice (some ⟨gn, 0, none⟩) (([] : List ByteArray)).length (0)) (([] : List ByteArray)).length ((([] : List ByteArray)).map Value.string), WvT 9 1 p1 (([] : List ByteArray)).length (strV (([] : List ByteArray))), WlT B1 D x'] := by simpa using H
            have HIN := hid (H.rowIn 2 (a := some ⟨gn, 0, none⟩) (c := 0) (l := ([] : List ByteArray)) rfl)
            have HSM := hid (st_same H (H.wvIn 3 HT.out.log.len.1 rfl) HIN.out)
            have hbe : ((r).toList == (r).toList) = true := beq_self_eq_true _
            clear H HO
            go_wp2_with fail
            refine HSM.out.mono ?_
            rintro e w16 ⟨rfl, H⟩
            have hrc := st_wrecords H 1 (B := B) (D := D) (x := x') rfl
            rw [HT.out.log.n] at hrc
            have HRC := hid hrc
            clear H HSM hrc
            go_wp2_with fail
            refine HRC.out.mono ?_
            rintro e w17 ⟨rfl, H⟩
            have hr1 := st_wroom H 4 0 (B := B1) (D := D) (x := x') (d := d') rfl rfl HT.out.log.i
            obtain ⟨m, hm⟩ : ∃ m, (x').room d' = m := ⟨_, rfl⟩
            rw [hm] at hr1
            have HR1 := hid hr1
            have HM := hid hm
            clear H HRC hr1 hm
            go_wp2_with fail
            refine HR1.out.mono ?_
            rintro e w18 ⟨rfl, H⟩
            have hr2 := st_wroom H 1 0 (B := B) (D := D) (x := x') (d := d') rfl rfl HT.out.log.i
            rw [HM.out] at hr2
            have HR2 := hid hr2
            clear H HR1 hr2
            go_wp2_with fail
            refine HR2.out.mono ?_
            rintro e w19 ⟨rfl, H⟩
            have HEND := hid (H.take 3)
            clear H HR2
            have hwk := HK.out
            go_wp2_with fail
            go_roundw
            case rel => exact ⟨k + 1, x', d', r, ([] : List ByteArray), some ⟨gn, 0, none⟩, 0, HLT.out.1, by go_num, rfl, rfl, HT, HEND.out⟩
            case measure => have := HLT.out.1; simp [intOf]; omega
    · obtain rfl : k = n := by omega
      have HF := hid (st_fixed09 H)
      clear H HE HA
      go_wp2_with fail
      refine HF.out.mono ?_
      rintro e w2 ⟨rfl, H⟩
      have hfr := hid H.fr
      clear H
      go_wp2_with fail
      go_ret
      exact ⟨rfl, hfr.out⟩
theorem waltells_walk (w : World) (half : Int) (h1 : -9223372036854775808 ≤ half) (h2 : half ≤ 9223372036854775807) (a : Option Addr) (n cap : Nat) (V : Nat → Value) (hS : SlIn w 1 16 a n cap V) (hq : ∀ i, i < n → Str (V (i * 1)))
    (am : Option Addr) (nm cm : Nat) (U : Nat → Value) (hM : SlIn w 1 8 am nm cm U) (hU : ∀ i, i < nm → I64 (U (i * 1))) (hbig : n ≤ 1048576) :
    Calls Try.prog 4 #[.int .i64 half, .slice a n cap, .slice am nm cm] w fun e w' => e = .returned (.bool true) ∧ Fr [] w w' := by
  obtain ⟨ss, hl, hI, _, hsz⟩ := strs_of hS hq
  obtain ⟨ms, hml, hmI⟩ := ints_of hM hU
  exact waltells_any w half h1 h2 a n cap ss hl hI hsz am nm cm ms hmI hbig
end Go.Proofs.Ythghnlgojmedgaa
