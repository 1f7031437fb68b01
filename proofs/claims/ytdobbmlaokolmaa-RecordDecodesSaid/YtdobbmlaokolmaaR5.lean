/-
  record: Encode.
-/
import Derived.Test.YtdobbmlaokolmaaR4
namespace Go.Proofs.Ytdobbmlaokolmaa
open Go.RowKit
set_option linter.unusedVariables false
set_option linter.unusedSimpArgs false

theorem put_le (c : CV) (hf : c.Fits) : c.put.length ≤ 6010 := by
  have h := pre_le c c.kind.toNat (hasS (c.kind.toNat : Int)).data.toList.length (by have := hf.kind; omega) (putL_le c hf)
  rw [List.take_length, show ((c.kind.toNat : Nat) : Int) = c.kind from by have := hf.kind; omega] at h
  exact h

theorem encGo_step {l : List CV} {k : Nat} {c : CV} (hx : l[k]? = some c) (s : List UInt8) : encGo (l.drop k) s = if c.check = 0 then encGo (l.drop (k + 1)) (s ++ c.put) else .error c.check := by
  obtain ⟨hk, rfl⟩ := List.getElem?_eq_some_iff.1 hx
  rw [List.drop_eq_getElem_cons hk]
  rfl

set_option maxHeartbeats 2000000 in
set_option maxRecDepth 100000 in
theorem encode_walk (w : World) (a : Option Addr) (n cap : Nat) (l : List (CV × TS)) (h : ChIn w a n cap l) :
    Calls Try.prog 15 #[.slice a n cap] w fun e w' => e = .returned (.tuple #[.string (encode (l.map (·.1))).1, .int .i64 (encode (l.map (·.1))).2]) ∧ Fr [] w w' := by
  have hmx := h.row.max
  have hln : (l.map (·.1)).length = n := by rw [List.length_map, h.len]
  obtain ⟨Z, hZ⟩ : ∃ Z, encode (l.map (·.1)) = Z := ⟨_, rfl⟩
  rw [hZ]
  unfold encode at hZ
  rw [hln] at hZ
  have HH := hid h
  clear h
  cases hi : inB n 1 16
  · simp only [hi, Bool.false_eq_true, if_false] at hZ
    subst hZ
    go_enter Try.func15, Try.ntmps15
    go_wp2_with (go_at_call 20; refine (in_walk _ _ _ _).mono ?_; rintro e w1 ⟨rfl, rfl⟩; rw [hi])
    go_ret2
    exact ⟨rfl, Fr.refl _ _⟩
  · simp only [hi, if_true] at hZ
    have hn16 : n ≤ 16 := by have := inB_iff.1 hi; omega
    have HZ := hid hZ
    clear hZ
    go_enter Try.func15, Try.ntmps15
    go_wp2_with (first
      | (go_at_call 20; refine (in_walk _ _ _ _).mono ?_; rintro e w1 ⟨rfl, rfl⟩; rw [hi])
      | (go_at_call 29; refine (num_walk _ n (by omega)).mono ?_; rintro e w1 ⟨rfl, hF⟩; have hF := hid hF))
    go_loopw [4, 17] (fun sv iv wr => ∃ (k : Nat) (s : ByteArray), k ≤ n ∧ sv = .string s ∧ iv = .int .i64 k ∧ s.size ≤ 10 + k * 10000 ∧ encGo (l.map (·.1)) (nf n).data.toList = encGo ((l.map (·.1)).drop k) s.data.toList ∧ Fr [] w wr) (fun sv iv _ => n - (intOf iv).toNat)
    case atStart => exact ⟨0, nf n, Nat.zero_le _, rfl, rfl, by have := nf_le n (by omega); omega, rfl, hF.out⟩
    case round =>
      obtain ⟨k, s, hk, rfl, rfl, hs, he, hFr⟩ := hrel
      by_cases hlt : k < n
      · obtain ⟨bb, ob, rfl⟩ := HH.out.row.sm (by omega)
        obtain ⟨x, hx⟩ : ∃ x, cL.nth l k = x := ⟨_, rfl⟩
        have hkl : k < l.length := by rw [HH.out.len]; exact hlt
        have hget : l[k]? = some x := by rw [← hx]; exact cL.nth_get hkl
        obtain ⟨c0, c1, c2, c3, c4, c5, c6, c7, c8, c9⟩ := ch_cells (HH.out.row.fr0 hFr) k hlt x hx
        have hone := HH.out.one x (List.mem_of_getElem? hget)
        have HO := hid (And.intro hget (And.intro hone (And.intro he (And.intro hs hFr))))
        clear hx hget hone he hs hFr hkl
        have hb0 := blk_alloc_at wr (.cells #[.int .i64 x.1.kind, .int .i64 x.1.n, .int .i64 x.1.job, .int .i64 x.1.badge, .int .i64 x.1.slot, .int .i64 x.1.life, .int .i64 x.1.code, .int .u64 x.1.bits, .string x.1.prog, .slice x.2.a x.1.texts.length x.2.c] 27) _ rfl
        have hcw := check_walk (wr.alloc (.cells #[.int .i64 x.1.kind, .int .i64 x.1.n, .int .i64 x.1.job, .int .i64 x.1.badge, .int .i64 x.1.slot, .int .i64 x.1.life, .int .i64 x.1.code, .int .u64 x.1.bits, .string x.1.prog, .slice x.2.a x.1.texts.length x.2.c] 27)) x.1 x.2 (HO.out.2.1.1.fr0 (HO.out.2.2.2.2.alloc _))
        have hF0 : Fr [] w (wr.alloc (.cells #[.int .i64 x.1.kind, .int .i64 x.1.n, .int .i64 x.1.job, .int .i64 x.1.badge, .int .i64 x.1.slot, .int .i64 x.1.life, .int .i64 x.1.code, .int .u64 x.1.bits, .string x.1.prog, .slice x.2.a x.1.texts.length x.2.c] 27)) := HO.out.2.2.2.2.alloc _
        obtain ⟨y, hy⟩ : ∃ y, x.1.check = y := ⟨_, rfl⟩
        rw [hy] at hcw
        have HC := hid (And.intro hb0 (And.intro hcw (And.intro hF0 hy)))
        clear hb0 hcw hF0 hy
        by_cases hy0 : y = 0
        · subst hy0
          have hfit := CV.fits HC.out.2.2.2 HO.out.2.1.2
          have hpl := put_le x.1 hfit
          obtain ⟨p, hp⟩ : ∃ p : ByteArray, (⟨x.1.put.toArray⟩ : ByteArray) = p := ⟨_, rfl⟩
          have hps : p.size ≤ 6010 := by rw [← hp]; show x.1.put.toArray.size ≤ 6010; simpa using hpl
          have hpw : ∀ w2, Fr [] w w2 → Calls Try.prog 30 #[.agg (x.1.f x.2).toArray] w2 fun e w' => e = .returned (.string p) ∧ Fr [] w2 w' := fun w2 h2 => by rw [← hp]; exact put_walk _ x.1 x.2 (HO.out.2.1.1.fr0 h2) hfit
          have hcat : ¬ 9223372036854775807 < s.size + p.size := by have := HO.out.2.2.2.1; omega
          have HP := hid (And.intro hp (And.intro hps hpw))
          clear hfit hpl hp hps hpw
          go_wp2_with (first
            | (go_at_call 11; refine HC.out.2.1.mono ?_; rintro e w2 ⟨rfl, hF2⟩; have hb2 := hF2.keep HC.out.1 (by simp)
               have d0 := cell_blk (i := 0) hb2 rfl; have d1 := cell_blk (i := 1) hb2 rfl; have d2 := cell_blk (i := 2) hb2 rfl; have d3 := cell_blk (i := 3) hb2 rfl; have d4 := cell_blk (i := 4) hb2 rfl
               have d5 := cell_blk (i := 5) hb2 rfl; have d6 := cell_blk (i := 6) hb2 rfl; have d7 := cell_blk (i := 7) hb2 rfl; have d8 := cell_blk (i := 8) hb2 rfl; have d9 := cell_blk (i := 9) hb2 rfl
               have hF3 := hid (HC.out.2.2.1.trans hF2); clear hb2)
            | (go_at_call 30; refine (HP.out.2.2 _ hF3.out).mono ?_; rintro e w3 ⟨rfl, hF4⟩; have hF5 := hid (hF3.out.trans hF4)))
          go_roundw
          case rel =>
            refine ⟨k + 1, s ++ p, by omega, rfl, by go_num, ?_, ?_, hF5.out⟩
            · have h1 := HP.out.2.1; have h2 := HO.out.2.2.2.1; rw [ByteArray.size_append]; omega
            · rw [HO.out.2.2.1, encGo_step (c := x.1) (by rw [List.getElem?_map, HO.out.1]; rfl), if_pos HC.out.2.2.2, ← HP.out.1]
              simp
          case measure => simp [intOf]; omega
        · go_wp2_with (go_at_call 11; refine HC.out.2.1.mono ?_; rintro e w2 ⟨rfl, hF2⟩; have hF3 := hid (HC.out.2.2.1.trans hF2))
          go_ret2
          refine ⟨?_, hF3.out⟩
          have h1 := HZ.out
          rw [HO.out.2.2.1, encGo_step (c := x.1) (by rw [List.getElem?_map, HO.out.1]; rfl), HC.out.2.2.2, if_neg hy0] at h1
          rw [← h1]; rfl
      · have HO := hid (And.intro he (And.intro hs hFr))
        clear he hs hFr
        have hke : k = n := by omega
        by_cases hbig : (2048 : Int) < s.size
        · go_wp2_with fail
          go_ret2
          refine ⟨?_, HO.out.2.2⟩
          have h1 := HZ.out
          rw [HO.out.1, List.drop_of_length_le (by rw [hln]; omega)] at h1
          simp only [encGo] at h1
          rw [if_pos (show 2048 < s.data.toList.length by rw [sizeL]; omega)] at h1
          rw [← h1]; rfl
        · go_wp2_with fail
          go_ret2
          refine ⟨?_, HO.out.2.2⟩
          have h1 := HZ.out
          rw [HO.out.1, List.drop_of_length_le (by rw [hln]; omega)] at h1
          simp only [encGo] at h1
          rw [if_neg (show ¬ 2048 < s.data.toList.length by rw [sizeL]; omega)] at h1
          rw [← h1]; rfl

end Go.Proofs.Ytdobbmlaokolmaa
