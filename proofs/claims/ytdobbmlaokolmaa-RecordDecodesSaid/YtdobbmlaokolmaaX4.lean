/-
  gafferref08: Encode.
-/
import Derived.Test.YtdobbmlaokolmaaX3
namespace Go.Proofs.Ytdobbmlaokolmaa
open Go.RowKit
set_option linter.unusedVariables false
set_option linter.unusedSimpArgs false

theorem rput_walk (w : World) (c : CV) (t : TS) (ht : In w 1 t.a c.texts.length t.c (sL.at_ c.texts)) (hf : c.Fits) :
    Calls Try.prog 32 #[.agg (c.f t).toArray] w fun e w' => e = .returned (.string ⟨c.put.toArray⟩) ∧ Fr [] w w' := by
  obtain ⟨kind, n, job, badge, slot, life, code, bits, prog, texts⟩ := c
  have h1 := hf.n; have h2 := hf.job; have h3 := hf.badge; have h4 := hf.slot; have h5 := hf.life; have h6 := hf.code; have h7 := hf.bits; have h10 := hf.kind
  simp only at h1 h2 h3 h4 h5 h6 h7 h10 ht
  obtain ⟨n, rfl⟩ := Int.eq_ofNat_of_zero_le h1.1
  obtain ⟨job, rfl⟩ := Int.eq_ofNat_of_zero_le h2.1
  obtain ⟨badge, rfl⟩ := Int.eq_ofNat_of_zero_le h3.1
  obtain ⟨slot, rfl⟩ := Int.eq_ofNat_of_zero_le h4.1
  obtain ⟨life, rfl⟩ := Int.eq_ofNat_of_zero_le h5.1
  obtain ⟨code, rfl⟩ := Int.eq_ofNat_of_zero_le h6.1
  obtain ⟨bits, rfl⟩ := Int.eq_ofNat_of_zero_le h7.1
  exact rput_walk_n w kind n job badge slot life code bits prog texts t.a t.c ht hf

set_option maxHeartbeats 2000000 in
set_option maxRecDepth 100000 in
theorem rencode_walk (w : World) (a : Option Addr) (n cap : Nat) (l : List (CV × TS)) (h : ChIn w a n cap l) :
    Calls Try.prog 16 #[.slice a n cap] w fun e w' => e = .returned (.tuple #[.string (encode (l.map (·.1))).1, .int .i64 (encode (l.map (·.1))).2]) ∧ Fr [] w w' := by
  have hmx := h.row.max
  have hln : (l.map (·.1)).length = n := by rw [List.length_map, h.len]
  obtain ⟨Z, hZ⟩ : ∃ Z, encode (l.map (·.1)) = Z := ⟨_, rfl⟩
  rw [hZ]
  unfold encode at hZ
  rw [hln] at hZ
  have HH := hid h
  clear h
  by_cases hlo : n < 1 ∨ 16 < n
  · have hi : inB n 1 16 = false := by cases hb : inB (n : Int) 1 16; rfl; have := inB_iff.1 hb; omega
    simp only [hi, Bool.false_eq_true, if_false] at hZ
    subst hZ
    clear hi
    rcases hlo with h1 | h1
    · have h2 : (n : Int) < 1 := by omega
      go_enter Try.func16, Try.ntmps16
      go_wp2_with fail
      go_ret2
      exact ⟨rfl, Fr.refl _ _⟩
    · have h2 : ¬ (n : Int) < 1 := by omega
      have h3 : (16 : Int) < n := by omega
      go_enter Try.func16, Try.ntmps16
      go_wp2_with fail
      go_ret2
      exact ⟨rfl, Fr.refl _ _⟩
  · have hi : inB n 1 16 = true := inB_iff.2 (by omega)
    simp only [hi, if_true] at hZ
    have h2 : ¬ (n : Int) < 1 := by omega
    have h3 : ¬ (16 : Int) < n := by omega
    have hn16 : n ≤ 16 := by omega
    have HZ := hid hZ
    clear hZ hi hlo
    go_enter Try.func16, Try.ntmps16
    go_wp2_with fail
    refine (rnum8_walk _ n (by omega)).mono ?_
    rintro e w1 ⟨rfl, hF⟩
    have hF := hid hF
    go_wp2_with fail
    go_loopw [4, 5] (fun sv iv wr => ∃ (k : Nat) (s : ByteArray), k ≤ n ∧ sv = .string s ∧ iv = .int .i64 k ∧ s.size ≤ 10 + k * 10000 ∧ encGo (l.map (·.1)) (nf n).data.toList = encGo ((l.map (·.1)).drop k) s.data.toList ∧ Fr [] w wr) (fun sv iv _ => n - (intOf iv).toNat)
    case atStart => exact ⟨0, nf n, Nat.zero_le _, rfl, rfl, by have := nf_le n (by omega); omega, rfl, hF.out⟩
    case round =>
      obtain ⟨k, s, hk, rfl, rfl, hs, he, hFr⟩ := hrel
      by_cases hlt : k < n
      · obtain ⟨bb, ob, rfl⟩ := HH.out.row.sm (by omega)
        obtain ⟨x, hx⟩ : ∃ x, cL.nth l k = x := ⟨_, rfl⟩
        have hkl : k < l.length := by rw [HH.out.len]; exact hlt
        have hget : l[k]? = some x := by rw [← hx]; exact cL.nth_get hkl
        have hcells := fun w' (hF' : Fr [] w w') => ch_cells (HH.out.row.fr0 hF') k hlt x hx
        obtain ⟨c0, c1, c2, c3, c4, c5, c6, c7, c8, c9⟩ := hcells wr hFr
        have hone := HH.out.one x (List.mem_of_getElem? hget)
        have hcw := rcheck_walk wr x.1 x.2 (hone.1.fr0 hFr)
        have HO := hid (And.intro hget (And.intro hone (And.intro he (And.intro hs hFr))))
        have HCE := hid hcells
        clear hx hget hone he hs hFr hkl hcells
        obtain ⟨y, hy⟩ : ∃ y, x.1.check = y := ⟨_, rfl⟩
        rw [hy] at hcw
        have hcw := hid hcw
        have HY := hid hy
        clear hy
        by_cases hy0 : y = 0
        · subst hy0
          have hfit := CV.fits HY.out HO.out.2.1.2
          have hpl := put_le x.1 hfit
          obtain ⟨p, hp⟩ : ∃ p : ByteArray, (⟨x.1.put.toArray⟩ : ByteArray) = p := ⟨_, rfl⟩
          have hps : p.size ≤ 6010 := by rw [← hp]; show x.1.put.toArray.size ≤ 6010; simpa using hpl
          have hpw : ∀ w2, Fr [] w w2 → Calls Try.prog 32 #[.agg (x.1.f x.2).toArray] w2 fun e w' => e = .returned (.string p) ∧ Fr [] w2 w' := fun w2 h2 => by rw [← hp]; exact rput_walk _ x.1 x.2 (HO.out.2.1.1.fr0 h2) hfit
          have hcat : ¬ 9223372036854775807 < s.size + p.size := by have := HO.out.2.2.2.1; omega
          have HP := hid (And.intro hp (And.intro hps hpw))
          clear hfit hpl hp hps hpw
          go_wp2_with fail
          refine hcw.out.mono ?_
          rintro e w2 ⟨rfl, hF2⟩
          have hF3 := hid (HO.out.2.2.2.2.trans hF2)
          obtain ⟨d0, d1, d2, d3, d4, d5, d6, d7, d8, d9⟩ := HCE.out w2 hF3.out
          clear hF2
          go_wp2_with fail
          refine (HP.out.2.2 _ hF3.out).mono ?_
          rintro e w3 ⟨rfl, hF4⟩
          have hF5 := hid (hF3.out.trans hF4)
          clear hF4
          go_wp2_with fail
          go_roundw
          case rel =>
            refine ⟨k + 1, s ++ p, by omega, rfl, by go_num, ?_, ?_, hF5.out⟩
            · have h1 := HP.out.2.1; have h2 := HO.out.2.2.2.1; rw [ByteArray.size_append]; omega
            · rw [HO.out.2.2.1, encGo_step (c := x.1) (by rw [List.getElem?_map, HO.out.1]; rfl), if_pos HY.out, ← HP.out.1]
              simp
          case measure => simp [intOf]; omega
        · go_wp2_with fail
          refine hcw.out.mono ?_
          rintro e w2 ⟨rfl, hF2⟩
          have hF3 := hid (HO.out.2.2.2.2.trans hF2)
          clear hF2
          go_wp2_with fail
          go_ret2
          refine ⟨?_, hF3.out⟩
          have h1 := HZ.out
          rw [HO.out.2.2.1, encGo_step (c := x.1) (by rw [List.getElem?_map, HO.out.1]; rfl), HY.out, if_neg hy0] at h1
          rw [← h1]; rfl
      · have HO := hid (And.intro he (And.intro hs hFr))
        clear he hs hFr
        have hke : k = n := by omega
        by_cases hbig : (2048 : Int) < s.size
        · go_wp2_with fail
          go_ret2
          refine ⟨?_, HO.out.2.2⟩
          have h1 := HZ.out
          rw [HO.out.1, List.drop_of_length_le (by rw [hln]; omega)] at h1
          simp only [encGo] at h1
          rw [if_pos (show 2048 < s.data.toList.length by rw [sizeL]; omega)] at h1
          rw [← h1]; rfl
        · go_wp2_with fail
          go_ret2
          refine ⟨?_, HO.out.2.2⟩
          have h1 := HZ.out
          rw [HO.out.1, List.drop_of_length_le (by rw [hln]; omega)] at h1
          simp only [encGo] at h1
          rw [if_neg (show ¬ 2048 < s.data.toList.length by rw [sizeL]; omega)] at h1
          rw [← h1]; rfl

end Go.Proofs.Ytdobbmlaokolmaa
