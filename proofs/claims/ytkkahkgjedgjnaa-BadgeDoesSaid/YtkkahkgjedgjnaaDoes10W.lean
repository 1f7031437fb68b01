/-
  The walk of BadgeDoes.
-/
import Derived.Test.YtkkahkgjedgjnaaDoes10
import Derived.Deep.Cut
import Derived.Deep.LoopGhost
namespace Go.Proofs.Ytkkahkgjedgjnaa
open Go.RowKit
set_option linter.unusedVariables false

theorem quiet_mine10 {P : Program} {f : FuncId} {args : Array Value} {w : World} {n : Nat} {v : Value}
    (h : Calls P f args (w.drewN n) fun e w' => e = .returned v ∧ w.drewN n = w') : Calls P f args (w.drewN n) fun e w'' => e = .returned v ∧ ∃ m, w'' = w.drewN m :=
  h.mono fun _ _ ⟨he, hm⟩ => ⟨he, n, hm.symm⟩

theorem info_lp : (Try.prog.info? 23).map (fun i => (i.zero, i.size, i.bytes)) = some (some (.pointer none), 1, 8) := by kernel_rfl
theorem info_mp : (Try.prog.info? 36).map (fun i => (i.zero, i.size, i.bytes)) = some (some (.pointer none), 1, 8) := by kernel_rfl

set_option maxHeartbeats 1600000 in
set_option maxRecDepth 100000 in
theorem does10_bad (w : World) (x0 x1 : Int) (a : Option Addr) (len cap : Nat) (code : Int) (h : (x0 < 1 ∨ 16 < x0) ∧ code = 100 ∨ (1 ≤ x0 ∧ x0 ≤ 16 ∧ (x1 < 0 ∨ 1099511627776 < x1)) ∧ code = 1) :
    Calls Try.prog 5 #[.int .i64 x0, .int .i64 x1, .slice a len cap] w fun e w' => e = .returned (.bool true) ∧ Fr [] w w' := by
  have h1 : Calls Try.prog 16 #[.int .i64 x0, .int .i64 x1] w fun e w' => e = .returned (.tuple #[.pointer none, .int .i64 code]) ∧ w' = w := by
    rcases h with ⟨h, rfl⟩ | ⟨⟨h, h', h''⟩, rfl⟩
    · exact badge_new_block x0 x1 w h
    · exact badge_new_arg x0 x1 w h h' h''
  have h2 : Calls Try.prog 22 #[.int .i64 x0, .int .i64 x1] w fun e w' => e = .returned (.tuple #[.pointer none, .int .i64 code]) ∧ w' = w := by
    rcases h with ⟨h, rfl⟩ | ⟨⟨h, h', h''⟩, rfl⟩
    · exact ref_new_block x0 x1 w h
    · exact ref_new_arg x0 x1 w h h' h''
  have H1 := hid h1
  have H2 := hid h2
  clear h1 h2 h
  go_enter Try.func5, Try.ntmps5
  go_wp2_with fail
  refine H1.out.mono ?_
  rintro e w1 ⟨rfl, rfl⟩
  go_wp2_with fail
  refine H2.out.mono ?_
  rintro e w1 ⟨rfl, rfl⟩
  go_wp2_with fail
  refine (fixed10 _).mono ?_
  rintro e w1 ⟨rfl, hF⟩
  go_wp2_with fail
  go_ret
  exact ⟨rfl, hF⟩

set_option maxHeartbeats 3200000 in
set_option maxRecDepth 100000 in
theorem does10_good (w : World) (x0 x1 : Int) (hb1 : 1 ≤ x0) (hb2 : x0 ≤ 16) (hr1 : 0 ≤ x1) (hr2 : x1 ≤ 1099511627776) (a : Option Addr) (len cap : Nat) (V : Nat → Value) (hS : SlIn w 2 16 a len cap V)
    (hq0 : ∀ i, i < len → I64 (V (i * 2))) (hq1 : ∀ i, i < len → I64 (V (i * 2 + 1))) :
    Calls Try.prog 5 #[.int .i64 x0, .int .i64 x1, .slice a len cap] w fun e w' => e = .returned (.bool true) ∧ Fr [] w w' := by
  have hmx := hS.mx
  have hle := hS.le
  have hC0 : Ctr (w.alloc (.cells #[.int .i64 x0, .int .i64 x1, .int .i64 x1] 85)) w.heap.size x0 x1 x1 := blk_alloc_at _ _ _ rfl
  have hX1 : RCtr ((w.alloc (.cells #[.int .i64 x0, .int .i64 x1, .int .i64 x1] 85)).alloc (.cells #[.int .i64 x0, .int .i64 x1, .int .i64 x1] 44)) (w.heap.size + 1) x0 x1 x1 := blk_alloc_at _ _ _ (by simp)
  have hC1 : Ctr ((w.alloc (.cells #[.int .i64 x0, .int .i64 x1, .int .i64 x1] 85)).alloc (.cells #[.int .i64 x0, .int .i64 x1, .int .i64 x1] 44)) w.heap.size x0 x1 x1 := blk_alloc_lt _ hC0
  have hF1 := ((Fr.refl [] w).alloc (.cells #[.int .i64 x0, .int .i64 x1, .int .i64 x1] 85)).alloc (.cells #[.int .i64 x0, .int .i64 x1, .int .i64 x1] 44)
  have hsz : ((w.alloc (.cells #[.int .i64 x0, .int .i64 x1, .int .i64 x1] 85)).alloc (.cells #[.int .i64 x0, .int .i64 x1, .int .i64 x1] 44)).heap.size = w.heap.size + 2 := by simp
  have HS := hid hS
  clear hS hC0
  go_enter Try.func5, Try.ntmps5
  go_wp2_with fail
  refine (badge_new_ok x0 x1 _ hb1 hb2 hr1 hr2).mono ?_
  rintro e w1 ⟨rfl, rfl⟩
  go_wp2_with fail
  refine (ref_new_ok x0 x1 _ hb1 hb2 hr1 hr2).mono ?_
  rintro e w1 ⟨rfl, rfl⟩
  simp only [World.size_alloc]
  generalize (w.alloc (.cells #[.int .i64 x0, .int .i64 x1, .int .i64 x1] 85)).alloc (.cells #[.int .i64 x0, .int .i64 x1, .int .i64 x1] 44) = w1 at hX1 hC1 hF1 hsz ⊢
  have hd := D10.start (B := w.heap.size) (w := w1) hF1.size hb1 x1 hr1 hr2 _ _ hC1 hX1 (Nat.le_refl _) (Nat.le_succ _)
  have hF2 := (hF1.alloc (.cells #[ptr w.heap.size] 23)).alloc (.cells #[ptr (w.heap.size + 1)] 36)
  clear hsz
  go_wp2_with fail
  go_loopw [11, 12, 13] (fun l m i wr => ∃ (k g cg h ch n : Nat) (bs cs : Nat → Nat) (L R : Nat → Int), k ≤ len ∧ i = .int .i64 k ∧ l = .slice (some ⟨g, 0, none⟩) n cg ∧ m = .slice (some ⟨h, 0, none⟩) n ch ∧ D10 w.heap.size wr x0 g cg h ch n bs cs L R ∧ Fr [] w wr) (fun _ _ i _ => len - (intOf i).toNat)
  case atStart => exact ⟨0, _, _, _, _, _, _, _, _, _, Nat.zero_le _, rfl, rfl, rfl, hd, hF2⟩
  case round =>
    clear hd hF2 hX1 hC1 hF1
    obtain ⟨k, g, cg, h, ch, n, bs, cs, L, R, hk, rfl, rfl, rfl, hd, hFw⟩ := hrel
    have hn1 := hd.n1
    have hn8 := hd.n8
    by_cases hlt : k < len
    · obtain ⟨b, off, rfl⟩ := HS.out.sm (by omega)
      obtain ⟨on, ho, ho1, ho2⟩ := hq0 k hlt
      obtain ⟨kd, hkd, hkd1, hkd2⟩ := hq1 k hlt
      have hc1 := hFw.cell0 (HS.out.cell b off rfl (k * 2) (by omega))
      have hc2 := hFw.cell0 (HS.out.cell b off rfl (k * 2 + 1) (by omega))
      rw [ho] at hc1
      rw [hkd, ← Nat.add_assoc] at hc2
      clear ho hkd
      have hq := place10 on n wr ho1 ho2 (by omega) (by omega)
      have hp1 : 0 ≤ on % (n : Int) := Int.emod_nonneg _ (by omega)
      have hp2 : on % (n : Int) < n := Int.emod_lt_of_pos _ (by omega)
      obtain ⟨j, hj⟩ := Int.eq_ofNat_of_zero_le hp1
      rw [hj] at hq hp2
      have hjn : j < n := by omega
      clear hj hp1 hp2
      obtain ⟨hl, hm⟩ := hd.at hjn
      have HQ := hid hq; clear hq
      have HQ0 := hid hq0; have HQ1 := hid hq1; clear hq0 hq1
      by_cases hk0 : kd = 0
      · subst hk0
        obtain ⟨e1, e2, e3, e4⟩ := hd.bd j hjn
        go_wp2_with fail
        refine HQ.out.mono ?_
        rintro e w2 ⟨rfl, rfl⟩
        go_wp2_with fail
        refine (badge_next_any _ _ _ _ _ (hd.hc j hjn) e1 e3 hb1 hb2).mono ?_
        rintro e w2 ⟨rfl, hF2, hC2⟩
        have hx2 := hF2.keep (hd.hx j hjn) (by simpa using (hd.gl.2.2.2.2.1 j j hjn hjn).symm)
        have hm2 := hF2.cell hm (by simpa using hd.gl.2.2.1 j hjn)
        go_wp2_with fail
        refine (ref_next_any _ _ _ _ _ hx2 e1 e2 e3 hb1 hb2).mono ?_
        rintro e w3 ⟨rfl, hF3, hC3⟩
        have hd3 := hd.next hjn hF2 hC2 hF3 hC3 (n_bounds _ _ _ hb1 hb2 e1 e2 e3 e4)
        have hF4 := (hFw.step hF2 (by simp; exact (hd.hB j hjn).1)).step hF3 (by simp; exact (hd.hB j hjn).2)
        clear hd hF2 hC2 hF3 hC3 hx2 hm2 hl hm hc1 hc2
        go_wp2_with fail
        go_roundw
        case rel => exact ⟨k + 1, g, cg, h, ch, n, bs, cs, _, _, by omega, by go_num, rfl, rfl, hd3, hF4⟩
        case measure => simp [intOf]; omega
      · by_cases hk2 : kd = 2
        · subst hk2
          have hclone := badge_clone _ _ _ _ _ (hd.hc j hjn)
          go_wp2_with fail
          refine HQ.out.mono ?_
          rintro e w2 ⟨rfl, rfl⟩
          go_wp2_with fail
          refine hclone.mono ?_
          rintro e w2 ⟨rfl, rfl⟩
          clear hclone
          by_cases h8 : n < 8
          · have hd2 := hd.keep ((Fr.refl [] wr).alloc (.cells #[.int .i64 x0, .int .i64 (L j), .int .i64 (R j)] 85))
            have hC2 : Ctr (wr.alloc (.cells #[.int .i64 x0, .int .i64 (L j), .int .i64 (R j)] 85)) wr.heap.size x0 (L j) (R j) := blk_alloc_at _ _ _ rfl
            have hF2 := hFw.alloc (.cells #[.int .i64 x0, .int .i64 (L j), .int .i64 (R j)] 85)
            have hFa := (Fr.refl [] wr).alloc (.cells #[.int .i64 x0, .int .i64 (L j), .int .i64 (R j)] 85)
            have hwr := hFw.size
            have hwC : wr.heap.size ≤ wr.heap.size := Nat.le_refl _
            clear hl hm hc1 hc2
            generalize hCz : wr.heap.size = C at hC2 ⊢
            generalize wr.alloc (.cells #[.int .i64 x0, .int .i64 (L j), .int .i64 (R j)] 85) = w2 at hd2 hC2 hF2 hFa ⊢
            have hCge : wr.heap.size ≤ C := by omega
            have hCs := lt_of_block hC2
            have hs2 := hF2.size
            clear hCz hwC
            obtain ⟨i0, hi, hz0, hz1, hz2⟩ := info_parts info_lp
            have HI := hid (And.intro hi (And.intro hz0 (And.intro hz1 hz2)))
            clear hi hz0 hz1 hz2
            go_wp2_with (at_builtin; refine wpList_append_own _ rfl (.tmp 144) (.tmp 146) 39 rfl w.heap.size 23 i0 (.pointer none) 1 8 Try.underlying39 HI.out.1 HI.out.2.1 HI.out.2.2.1 HI.out.2.2.2 rfl (by decide) _ _ _ rfl (hd2.ol.alloc _) ⟨w2.heap.size, 0, none⟩ 1 1 [ptr C] rfl rfl ?qa1 ?qa2 ?qa3 ?qa4 ?qa5 ?_)
            case qa1 => intro q u hu; match q, hu with | 0, hu => simp at hu; subst hu; simp [Addr.add, World.cell?_alloc_at, ptr]
            case qa2 => intro u hu; simp at hu; subst hu; rfl
            case qa3 => unfold maxLen; omega
            case qa4 => omega
            case qa5 => simp; omega
            intro v' w3 hown3 hgrow3 _
            obtain ⟨g1, g2, g3, g4, g5, g6⟩ := hd2.gl
            have hFb := (Fr.refl [g] w2).alloc (.cells #[ptr C] 23)
            have hF3 : Fr [g] w2 w3 := hFb.trans (Fr.of_grown hgrow3)
            have hX3 := hF3.keep (hd2.hx j hjn) (by simpa using (g2 j hjn).symm)
            have hm3 := hF3.cell (hd2.at hjn).2 (by simpa using Ne.symm g6)
            have hC3 := hF3.keep hC2 (by have := lt_of_block (hd2.hc j hjn); have := (ownsRow_blk hd2.ol).choose_spec.1; simp; exact (ne_of_elem this hC2 (by decide)).symm)
            have hom3 := ownsRow_fr hd2.om hF3 (by simpa using Ne.symm g6)
            have hs3 := hF3.size
            have hF4 := hF2.step hF3 (by simp; exact (ownsRow_blk hd2.ol).choose_spec.2)
            clear hgrow3 hFb
            go_wp2_with fail
            refine (ref_copy _ _ _ _ _ hX3).mono ?_
            rintro e w4 ⟨rfl, rfl⟩
            have hX4 : RCtr (w3.alloc (.cells #[.int .i64 x0, .int .i64 (L j), .int .i64 (R j)] 44)) w3.heap.size x0 (L j) (R j) := blk_alloc_at _ _ _ rfl
            have hFc := (Fr.refl [] w3).alloc (.cells #[.int .i64 x0, .int .i64 (L j), .int .i64 (R j)] 44)
            have hwC : w3.heap.size ≤ w3.heap.size := Nat.le_refl _
            have hs4 := hFc.size
            clear hX3 hm3
            generalize hCz : w3.heap.size = C' at hX4 ⊢
            generalize w3.alloc (.cells #[.int .i64 x0, .int .i64 (L j), .int .i64 (R j)] 44) = w4 at hX4 hFc hs4 ⊢
            have hC'ge : w3.heap.size ≤ C' := by omega
            clear hCz hwC
            have hom4 := ownsRow_fr hom3 hFc (by simp)
            have hown4 := owns_fr hown3 hFc (by simp)
            have hC4 := hFc.keep hC3 (by simp)
            clear hom3 hown3 hC3
            obtain ⟨i1, hi, hz0, hz1, hz2⟩ := info_parts info_mp
            have HJ := hid (And.intro hi (And.intro hz0 (And.intro hz1 hz2)))
            clear hi hz0 hz1 hz2
            go_wp2_with (at_builtin; refine wpList_append_own _ rfl (.tmp 148) (.tmp 154) 40 rfl w.heap.size 36 i1 (.pointer none) 1 8 Try.underlying40 HJ.out.1 HJ.out.2.1 HJ.out.2.2.1 HJ.out.2.2.2 rfl (by decide) _ _ _ rfl (hom4.alloc _) ⟨w4.heap.size, 0, none⟩ 1 1 [ptr C'] rfl rfl ?qb1 ?qb2 ?qb3 ?qb4 ?qb5 ?_)
            case qb1 => intro q u hu; match q, hu with | 0, hu => simp at hu; subst hu; simp [Addr.add, World.cell?_alloc_at, ptr]
            case qb2 => intro u hu; simp at hu; subst hu; rfl
            case qb3 => unfold maxLen; omega
            case qb4 => omega
            case qb5 => simp; omega
            intro v'' w5 hown5 hgrow5 _
            have hF5 : Fr [h] w4 w5 := ((Fr.refl [h] w4).alloc (.cells #[ptr C'] 36)).trans (Fr.of_grown hgrow5)
            clear hgrow5
            obtain ⟨g', cg', hv'⟩ := owns_shape hown4 (by omega)
            obtain ⟨h', ch', hv''⟩ := owns_shape hown5 (by omega)
            have hne : ∀ q, v'.ownBlock = some q → q ∉ [h] := by
              rw [hv'] at hown4 ⊢
              intro q hq
              simp [Value.ownBlock] at hq; subst hq
              obtain ⟨c1, k1, _⟩ := ownsRow_blk hown4
              obtain ⟨c2, k2, _⟩ := ownsRow_blk hom4
              simpa using ne_of_elem k1 k2 (by decide)
            have hown5' := owns_fr hown4 hF5 hne
            have hhC : C ≠ h := by obtain ⟨c2, k2, _⟩ := ownsRow_blk hom4; exact ne_of_elem hC4 k2 (by decide)
            have hhC' : C' ≠ h := by obtain ⟨c2, k2, _⟩ := ownsRow_blk hom4; exact ne_of_elem hX4 k2 (by decide)
            have hFd : Fr [g, h] wr w5 := (((hFa.mono (by simp)).trans (hF3.mono (by simp))).trans (hFc.mono (by simp))).trans (hF5.mono (by simp))
            rw [hv'] at hown5'
            rw [hv''] at hown5
            have hd5 := hd.add h8 hjn hFd hown5' hown5 (hF5.keep hC4 (by simpa using hhC)) (hF5.keep hX4 (by simpa using hhC')) hCge (by have := hFa.size; omega) hwr
            have hF6 := (hF4.trans hFc).step hF5 (by simp; exact (ownsRow_blk hd2.om).choose_spec.2)
            clear hd hd2 hF2 hFa hC2 g1 g2 g3 g4 g5 g6 hF3 hF4 hX4 hFc hom4 hown4 hC4 hF5 hne hown5' hhC hhC' hFd hown5 hs2 hs3 hs4
            go_wp2_with fail
            go_roundw
            case rel => exact ⟨k + 1, g', cg', h', ch', n + 1, _, _, _, _, by omega, by go_num, hv', hv'', hd5, hF6⟩
            case measure => simp [intOf]; omega
          · have hd3 := hd.keep ((Fr.refl [] wr).alloc (.cells #[.int .i64 x0, .int .i64 (L j), .int .i64 (R j)] 85))
            have hF4 := hFw.alloc (.cells #[.int .i64 x0, .int .i64 (L j), .int .i64 (R j)] 85)
            clear hl hm hc1 hc2
            go_wp2_with fail
            go_roundw
            case rel => exact ⟨k + 1, g, cg, h, ch, n, bs, cs, L, R, by omega, by go_num, rfl, rfl, hd3, hF4⟩
            case measure => simp [intOf]; omega
        · have hk0' : (kd == 0) = false := by rw [beq_eq_false_iff_ne]; exact hk0
          have hk2' : (kd == 2) = false := by rw [beq_eq_false_iff_ne]; exact hk2
          have hx1 : wr.cell? ⟨cs j, 1, none⟩ = some (.int .i64 (L j)) := cell_blk (hd.hx j hjn) rfl
          have hx2 : wr.cell? ⟨cs j, 2, none⟩ = some (.int .i64 (R j)) := cell_blk (hd.hx j hjn) rfl
          clear hk0 hk2
          go_wp2_with fail
          refine HQ.out.mono ?_
          rintro e w2 ⟨rfl, rfl⟩
          go_wp2_with fail
          clear hc1 hc2 hk0' hk2'
          go_quiet ((first | (go_at_call 20; exact quiet_mine10 (badge_reserved _ _ _ _ _ (hd.hc j hjn))) | (go_at_call 19; exact quiet_mine10 (badge_last _ _ _ _ _ (hd.hc j hjn)))))
          go_wp2
          go_roundw
          case rel => exact ⟨k + 1, g, cg, h, ch, n, bs, cs, L, R, by omega, by go_num, rfl, rfl, hd.keep ((Fr.refl [] wr).drewN _), hFw.drewN _⟩
          case measure => simp [intOf]; omega
    · have HQ0 := hid hq0; have HQ1 := hid hq1; clear hq0 hq1
      go_wp2_with fail
      go_loopw [22] (fun i wi => ∃ q : Nat, q ≤ n ∧ i = .int .i64 q ∧ D10 w.heap.size wi x0 g cg h ch n bs cs L R ∧ Fr [] w wi) (fun i _ => n - (intOf i).toNat)
      case atStart => exact ⟨0, Nat.zero_le _, rfl, hd, hFw⟩
      case round =>
        clear hd hFw
        obtain ⟨q, hq, rfl, hd, hFw⟩ := hrel
        by_cases hqn : q < n
        · obtain ⟨hl, hm⟩ := hd.at hqn
          have hx1 : wr.cell? ⟨cs q, 1, none⟩ = some (.int .i64 (L q)) := cell_blk (hd.hx q hqn) rfl
          have hx2 : wr.cell? ⟨cs q, 2, none⟩ = some (.int .i64 (R q)) := cell_blk (hd.hx q hqn) rfl
          go_wp2_with fail
          go_quiet ((first | (go_at_call 20; exact quiet_mine10 (badge_reserved _ _ _ _ _ (hd.hc q hqn))) | (go_at_call 19; exact quiet_mine10 (badge_last _ _ _ _ _ (hd.hc q hqn)))))
          go_wp2
          go_roundw
          case rel => exact ⟨q + 1, by omega, by go_num, hd.keep ((Fr.refl [] wr).drewN _), hFw.drewN _⟩
          case measure => simp [intOf]; omega
        · go_wp2_with fail
          refine (fixed10 _).mono ?_
          rintro e w3 ⟨rfl, hF3⟩
          go_wp2_with fail
          go_ret
          exact ⟨rfl, hFw.trans hF3⟩

theorem does10_any (w : World) (x0 : Int) (h01 : -9223372036854775808 ≤ x0) (h02 : x0 ≤ 9223372036854775807) (x1 : Int) (h11 : -9223372036854775808 ≤ x1) (h12 : x1 ≤ 9223372036854775807)
    (a : Option Addr) (len cap : Nat) (V : Nat → Value) (hS : SlIn w 2 16 a len cap V) (hq0 : ∀ i, i < len → I64 (V (i * 2))) (hq1 : ∀ i, i < len → I64 (V (i * 2 + 1))) :
    Calls Try.prog 5 #[.int .i64 x0, .int .i64 x1, .slice a len cap] w fun e w' => e = .returned (.bool true) ∧ Fr [] w w' := by
  by_cases hx : x0 < 1 ∨ 16 < x0
  · exact does10_bad w x0 x1 a len cap 100 (.inl ⟨hx, rfl⟩)
  · by_cases hy : x1 < 0 ∨ 1099511627776 < x1
    · exact does10_bad w x0 x1 a len cap 1 (.inr ⟨⟨by omega, by omega, hy⟩, rfl⟩)
    · exact does10_good w x0 x1 (by omega) (by omega) (by omega) (by omega) a len cap V hS hq0 hq1

end Go.Proofs.Ytkkahkgjedgjnaa
