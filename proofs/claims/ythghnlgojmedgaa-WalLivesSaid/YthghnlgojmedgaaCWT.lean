/-
  The laws' helper of layer 9: lived.
-/
import Derived.Deep.RegionHeld3
import Derived.Deep.CutRange
import Derived.Deep.Cut
import Derived.Test.YthghnlgojmedgaaM31
import Derived.Test.YthghnlgojmedgaaM28
import Derived.Test.YthghnlgojmedgaaM6
namespace Go.Proofs.Ythghnlgojmedgaa
open Go.RowKit
set_option linter.unusedVariables false
set_option linter.unusedSimpArgs false

/-- A disk between two lives. -/
structure Lv (d : DS) (h : WH) (s : ByteArray) (l : List ByteArray) : Prop where
  lay : Lay9 d h s l
  on : d.dead = false
  armed : d.armed = 0
  raw : d.raw.length ≤ 600
/-- A log within a life, behind k calls of n. -/
structure Li (k n : Nat) (x : WS) (d : DS) (s : ByteArray) (l : List ByteArray) : Prop where
  lg : Lg9 x d s l
  armed : d.armed = 0 ∨ k = n
  raw : d.raw.length ≤ 600
/-- Ahead of a call. -/
structure Lc (k n : Nat) (pb : Int) (x : WS) (d c : DS) (s : ByteArray) (l : List ByteArray) : Prop where
  lg : Lg9 x d s l
  armed : d.armed = 0 ∨ k + 1 = n
  bytes : d.armed ≠ 0 → d.bytes = pb
  raw : d.raw.length = 0
  lc : Lg9 x c s l
  ca : c.armed = 0
  cr : c.raw.length = 0
  sec : d.sec.length = c.sec.length
theorem perm6 {a b c d e f : Thing} : [a, b, c, d, e, f].Perm ([a, f, d, c, e] ++ [b]) :=
  List.Perm.cons _ ((List.perm_append_singleton f [b, c, d, e]).trans (List.Perm.cons _ ((List.perm_append_comm (l₁ := [b]) (l₂ := [c, d, e])).trans (List.Perm.swap _ _ _))))
theorem perm7 {a b c d e f g : Thing} : [a, b, c, d, e, f, g].Perm ([a, b, e, d] ++ [c, f, g]) :=
  List.Perm.cons _ (List.Perm.cons _ ((List.perm_middle (l₁ := [c, d]) (l₂ := [f, g])).trans (List.Perm.cons _ (List.Perm.swap _ _ _))))
theorem St.none {W : Base} {w : World} {R : List Thing} (H : St W w R) : St W w (R ++ [TxT .none 0 []]) :=
  H.new (A := In1 1 .none 0 0 (strV [])) (F := []) (Fr.refl _ _) inferInstance ⟨rfl, ⟨Nat.le_refl _, by decide, fun h => by omega, fun b off e => by cases e⟩, fun p hp => by cases hp⟩ (by simp)
/-- How the call ends: refused, done, cut. -/
theorem lc_append {k n : Nat} {pb : Int} {x : WS} {d c : DS} {s : ByteArray} {l : List ByteArray} (L : Lc k n pb x d c s l) (r : ByteArray) :
    ((x.append d r).1 ≠ 0 ∧ (x.append d r).1 ≠ 2 ∧ (x.append d r).2 = (x, d)) ∨
    ((x.append d r).1 = 0 ∧ Li (k + 1) n (x.append d r).2.1 (x.append d r).2.2 s (l ++ [r])) ∨
    ((x.append d r).1 = 2 ∧ k + 1 = n ∧ (x.append c r).1 = 0 ∧ ∃ ts tl q mm, (x.append c r).2.2.raw.length = mm ∧ CutI (x.append d r).2.1 (x.append d r).2.2 c x s s l (l ++ [r]) ts tl q mm pb) := by
  by_cases hb : apBad x d r
  · exact .inl (append_bad L.lg.log r hb)
  have hbc : ¬ apBad x c r := fun h => hb (by unfold apBad at h ⊢; rw [L.sec]; exact h)
  obtain ⟨_, hc, h02⟩ := append_cut L.lg r hb
  obtain ⟨_, hcc, h02c⟩ := append_cut L.lc r hbc
  rcases hc with ⟨h0, h2, _⟩ | ⟨h0, hL, ha, hr, h6, hn, _⟩ | ⟨h2, ha, hx, hd, hwf, hsl, h6, hI, q, h', hq, hr, hn, hsay⟩
  · exact (h02.elim h0 h2).elim
  · refine .inr (.inl ⟨h0, hL, ?_, by rw [hr, L.raw]; omega⟩)
    rcases L.armed with h | h
    · exact .inl (ha h)
    · exact .inr h
  · refine .inr (.inr ⟨h2, L.armed.resolve_left ha, ?_⟩)
    have hdone : (x.append c r).1 = 0 ∧ (x.append c r).2.2.raw.length = apM x r := by
      rcases hcc with ⟨c0, c2, _⟩ | ⟨c0, _, _, cr, _⟩ | ⟨_, ca, _⟩
      · exact (h02c.elim c0 c2).elim
      · exact ⟨c0, by rw [cr, L.cr]; omega⟩
      · exact absurd L.ca ca
    have hby := L.bytes ha
    have hr0 := L.raw
    refine ⟨hdone.1, ?_⟩
    rcases hsay with ⟨hs, hl⟩ | ⟨hs, hl⟩
    · exact ⟨s, l ++ [r], q, _, hdone.2, hx, hd, hI, by omega, by omega, h6, by unfold apM; omega, ⟨h', hl⟩, .inl ⟨⟨hs.1, by rw [← hby]; exact hs.2⟩, rfl, rfl⟩, L.lc, L.cr⟩
    · exact ⟨s, l, q, _, hdone.2, hx, hd, hI, by omega, by omega, h6, by unfold apM; omega, ⟨_, hl⟩, .inr ⟨fun h => hs ⟨h.1, by rw [hby]; exact h.2⟩, rfl, rfl⟩, L.lc, L.cr⟩
theorem lc_snapshot {k n : Nat} {pb : Int} {x : WS} {d c : DS} {s : ByteArray} {l : List ByteArray} (L : Lc k n pb x d c s l) (r : ByteArray) :
    ((x.snapshot d r).1 ≠ 0 ∧ (x.snapshot d r).1 ≠ 2 ∧ (x.snapshot d r).2 = (x, d)) ∨
    ((x.snapshot d r).1 = 0 ∧ Li (k + 1) n (x.snapshot d r).2.1 (x.snapshot d r).2.2 r []) ∨
    ((x.snapshot d r).1 = 2 ∧ k + 1 = n ∧ (x.snapshot c r).1 = 0 ∧ ∃ ts tl q mm, (x.snapshot c r).2.2.raw.length = mm ∧ CutI (x.snapshot d r).2.1 (x.snapshot d r).2.2 c x s r l [] ts tl q mm pb) := by
  by_cases hb : snBad x d r
  · exact .inl (snapshot_bad L.lg.log r hb)
  have hbc : ¬ snBad x c r := fun h => hb (by unfold snBad at h ⊢; rw [L.sec]; exact h)
  obtain ⟨hc, h02⟩ := snapshot_cut L.lg r hb
  obtain ⟨hcc, h02c⟩ := snapshot_cut L.lc r hbc
  rcases hc with ⟨h0, h2, _⟩ | ⟨h0, hL, ha, hr, h6, hn, _⟩ | ⟨h2, ha, hx, hd, hwf, hsl, h6, hI, q, h', hq, hr, hn, hsay⟩
  · exact (h02.elim h0 h2).elim
  · refine .inr (.inl ⟨h0, hL, ?_, by rw [hr, L.raw]; omega⟩)
    rcases L.armed with h | h
    · exact .inl (ha h)
    · exact .inr h
  · refine .inr (.inr ⟨h2, L.armed.resolve_left ha, ?_⟩)
    have hdone : (x.snapshot c r).1 = 0 ∧ (x.snapshot c r).2.2.raw.length = snM r := by
      rcases hcc with ⟨c0, c2, _⟩ | ⟨c0, _, _, cr, _⟩ | ⟨_, ca, _⟩
      · exact (h02c.elim c0 c2).elim
      · exact ⟨c0, by rw [cr, L.cr]; omega⟩
      · exact absurd L.ca ca
    have hby := L.bytes ha
    have hr0 := L.raw
    refine ⟨hdone.1, ?_⟩
    rcases hsay with ⟨hs, hl⟩ | ⟨hs, hl⟩
    · exact ⟨r, [], q, _, hdone.2, hx, hd, hI, by omega, by omega, h6, by unfold snM; omega, ⟨h', hl⟩, .inl ⟨⟨hs.1, by rw [← hby]; exact hs.2⟩, rfl, rfl⟩, L.lc, L.cr⟩
    · exact ⟨s, l, q, _, hdone.2, hx, hd, hI, by omega, by omega, h6, by unfold snM; omega, ⟨_, hl⟩, .inr ⟨fun h => hs ⟨h.1, by rw [hby]; exact h.2⟩, rfl, rfl⟩, L.lc, L.cr⟩

set_option maxHeartbeats 4000000 in
set_option maxRecDepth 100000 in
theorem st_lived {w0 w : World} {D : Nat} {d : DS} {h : WH} {s : ByteArray} {l : List ByteArray} (H : St (.of w0) w [DkT D d]) (P : Lv d h s l) (y : Lf) (hy : OneLf w0 y) :
    Calls Try.prog 26 #[.pointer (some ⟨D, 0, none⟩), .agg #[.slice y.ta y.texts.length y.tc, .slice y.ma y.marks.length y.mc, .int .i64 y.n, .int .i64 y.bytes]] w fun e w' => e = .returned (.bool true) ∧ ∃ d' h' s' l', Lv d' h' s' l' ∧ St (.of w0) w' [DkT D d'] := by
  obtain ⟨texts, ta, tc, marks, ma, mc, yn, yb⟩ := y
  obtain ⟨htx, hmk, htsz, hn1, hn2, hb1, hb2⟩ := hy
  dsimp only at htx hmk htsz hn1 hn2 hb1 hb2 ⊢
  obtain ⟨n, hn⟩ : ∃ n, texts.length = n := ⟨_, rfl⟩
  obtain ⟨nm, hnm⟩ : ∃ nm, marks.length = nm := ⟨_, rfl⟩
  rw [hn] at htx htsz ⊢
  rw [hnm] at hmk ⊢
  have HTX := hid (And.intro htx htsz)
  have HMK := hid hmk
  have HNB := hid (And.intro hn1 (And.intro hn2 (And.intro hb1 (And.intro hb2 (And.intro htx.max hmk.max)))))
  have HP := hid P
  have HB := hid (H.alloc (.cells #[.slice ta n tc, .slice ma nm mc, .int .i64 yn, .int .i64 yb] 42))
  clear H htx hmk htsz hn1 hn2 hb1 hb2 P hn hnm
  go_enter Try.func26, Try.ntmps26
  go_wp2_with fail
  obtain ⟨ob, hob⟩ : ∃ ob, w.heap.size = ob := ⟨_, rfl⟩
  rw [hob] at HB
  try rw [hob]
  clear hob
  generalize w.alloc (.cells #[.slice ta n tc, .slice ma nm mc, .int .i64 yn, .int .i64 yb] 42) = w1 at HB ⊢
  have HO := hid (st_lopen (x := ⟨h, l.length, false⟩) HB.out 0 rfl HP.out.lay.wf HP.out.on HP.out.lay.fit HP.out.lay.cnt)
  clear HB
  refine HO.out.mono ?_
  rintro e w2 ⟨B, p, rfl, H⟩
  have hll := (HP.out.lay.log HP.out.on).log.len.1
  have H : St (.of w0) w2 [DkT D d, BlkT ob (.cells #[.slice ta n tc, .slice ma nm mc, .int .i64 yn, .int .i64 yb] 42), TxT p l.length l, WlT B D ⟨h, l.length, false⟩] := by
    have h9 := H.wvTx 2 (a := p) (l := l) hll rfl
    simpa using h9
  have HS0 := hid H
  have HLI := hid (show Li 0 n ⟨h, l.length, false⟩ d s l from ⟨HP.out.lay.log HP.out.on, .inl HP.out.armed, HP.out.raw⟩)
  clear H HO hll
  go_wp2_with fail
  go_loopw [6, 7, 9] (fun sv lv iv wr => ∃ (k : Nat) (x : WS) (d : DS) (s : ByteArray) (l : List ByteArray) (a : Option Addr) (c : Nat), k ≤ n ∧ iv = .int .i64 k ∧ sv = .string s ∧ lv = .slice a l.length c ∧ Hid (Li k n x d s l) ∧ St (.of w0) wr [DkT D d, BlkT ob (.cells #[.slice ta n tc, .slice ma nm mc, .int .i64 yn, .int .i64 yb] 42), TxT a c l, WlT B D x]) (fun _ _ iv _ => n - (intOf iv).toNat)
  case atStart => exact ⟨0, _, _, _, _, _, _, Nat.zero_le _, rfl, rfl, rfl, HLI, HS0.out⟩
  case round =>
    clear HP HLI HS0
    obtain ⟨k, x, d, s, l, la, lc, hk, rfl, rfl, rfl, hL, H⟩ := hrel
    have z0 := cell_blk (i := 0) (H.blk 1 rfl) rfl
    by_cases hlt : k < n
    · obtain ⟨bt, ot, rfl⟩ := HTX.out.1.sm (by omega)
      obtain ⟨r, hr⟩ : ∃ r, sAt texts k = r := ⟨_, rfl⟩
      have hct : ∀ w', Fr [] w0 w' → w'.cell? ⟨bt, ot + k, none⟩ = some (.string r) := fun w' hF => by
        have h1 := (HTX.out.1.fr0 hF).cell bt ot rfl k (by omega)
        rw [← hr]; exact h1
      have hrs := HTX.out.2 k hlt
      rw [hr] at hrs
      have HCT := hid (And.intro hct hrs)
      have HLT := hid (And.intro hlt hk)
      have hltI : (k : Int) < n := by omega
      have HK := hid (show IntKind.i64.wrap ((k : Int) + 1) = (k : Int) + 1 from IntWalk.i64_in _ (by have := HNB.out.2.2.2.2.1; omega))
      have HLEN := hid hL.out.lg.log.len.1
      obtain ⟨bb, hbb⟩ : ∃ bb, (decide (0 < nm) && (mAt marks (k % nm) == 1)) = bb := ⟨_, rfl⟩
      have HBB := hid hbb
      obtain ⟨t, ht⟩ : ∃ t, (if bb = true then r else s) = t := ⟨_, rfl⟩
      obtain ⟨m, hm⟩ : ∃ m, (if bb = true then [] else l ++ [r]) = m := ⟨_, rfl⟩
      have HTM := hid (show bb = true ∧ t = r ∧ m = [] ∨ bb = false ∧ t = s ∧ m = l ++ [r] by
        cases bb
        · exact .inr ⟨rfl, ht.symm, hm.symm⟩
        · exact .inl ⟨rfl, ht.symm, hm.symm⟩)
      have HH := hid H
      clear hct hrs hr H hlt hk hbb ht hm
      go_upto_region 7 with (fail)
      go_cut [10] from 32 to 144 (fun s10 wx => s10 = .bool bb ∧ Fr [] wr wx)
      case first =>
        clear z0 hltI
        have z1 := cell_blk (i := 1) (HH.out.blk 1 rfl) rfl
        by_cases hz : nm = 0
        · subst hz
          have hb1 : bb = false := by rw [← HBB.out]; rfl
          subst hb1
          have HKK := hid (fun (wx : World) (h : Fr [] wr wx) => (show wx.cell? ⟨ob, 1, none⟩ = some (.slice ma 0 mc) from h.cell0 z1))
          clear z1
          refine wp_region_calm (S := fun wx : World => Fr [] wr wx) (by kernel_rfl) (by kernel_rfl) ((Fr.refl _ _).drew) ?_
          repeat (first | (refine calmRow_free (v := ?_) rfl ?_ ?_; rotate_left; (focus (intro wx hSx; (try dsimp only at hSx); have hcx := HKK.out wx hSx; go_simp; (first | with_reducible rfl | exact ⟨rfl, hSx⟩))); (try simp only [Act.put, List.setIfInBounds_toArray, List.set_cons_zero, List.set_cons_succ])) | (refine calmRow_skip ?_ ?_; (focus (go_simp; (try (intro hx; cases hx)); done)); (try simp only [Act.put, List.setIfInBounds_toArray, List.set_cons_zero, List.set_cons_succ])) | (refine calmRow_take (v := ?_) ?_ ?_ ?_; rotate_left; (focus (go_simp; done)); (focus (intro wx hSx; (try dsimp only at hSx); have hcx := HKK.out wx hSx; go_simp; (first | with_reducible rfl | exact ⟨rfl, hSx⟩))); (try simp only [Act.put, List.setIfInBounds_toArray, List.set_cons_zero, List.set_cons_succ])))
          refine calmRow_nil ?_
          intro wn hFx
          try dsimp only at hFx
          go_wp2_with fail
          go_meet
          exact ⟨rfl, hFx⟩
        · have hkm : k % nm < nm := Nat.mod_lt _ (by omega)
          obtain ⟨bm, om, rfl⟩ := HMK.out.sm (by omega)
          have hcm : wr.cell? ⟨bm, om + k % nm, none⟩ = some (.int .i64 (mAt marks (k % nm))) := (HMK.out.fr0 HH.out.fr).cell bm om rfl (k % nm) (by omega)
          have e1 : max (1 : Int) (nm : Int) = (nm : Int) := by omega
          have e2 : (k : Int).tmod (nm : Int) = ((k % nm : Nat) : Int) := by rw [Int.ofNat_tmod]
          have e3 : ((nm : Int) == 0) = false := by rw [beq_eq_false_iff_ne]; omega
          have e3' : ¬ (nm : Int) = 0 := by omega
          have e4 : decide (0 < nm) = true := decide_eq_true (by omega)
          have e5 : ((k % nm : Nat) : Int) < (nm : Int) := by omega
          have hb2 : (mAt marks (k % nm) == 1) = bb := by have := HBB.out; rw [decide_eq_true (by omega : 0 < nm)] at this; simpa using this
          obtain ⟨km, hkme⟩ : ∃ km, k % nm = km := ⟨_, rfl⟩
          rw [hkme] at hcm e2 e5 hb2
          obtain ⟨mk, hmk⟩ : ∃ mk, mAt marks km = mk := ⟨_, rfl⟩
          rw [hmk] at hcm hb2
          have HKK := hid (fun (wx : World) (h : Fr [] wr wx) => (show wx.cell? ⟨ob, 1, none⟩ = some (.slice (some ⟨bm, om, none⟩) nm mc) ∧ wx.cell? ⟨bm, om + km, none⟩ = some (.int .i64 mk) from ⟨h.cell0 z1, h.cell0 hcm⟩))
          have e6 : IntKind.i64.wrap (km : Int) = (km : Int) := IntWalk.i64_in _ (by have := HNB.out.2.2.2.2.2; omega)
          have e7 : ¬ nm = 0 := hz
          clear hkm hz hkme hmk z1 hcm
          refine wp_region_calm (S := fun wx : World => Fr [] wr wx) (by kernel_rfl) (by kernel_rfl) ((Fr.refl _ _).drew) ?_
          repeat (first | (refine calmRow_free (v := ?_) rfl ?_ ?_; rotate_left; (focus (intro wx hSx; (try dsimp only at hSx); have hcx := HKK.out wx hSx; go_simp; (first | with_reducible rfl | exact ⟨rfl, hSx⟩))); (try simp only [Act.put, List.setIfInBounds_toArray, List.set_cons_zero, List.set_cons_succ])) | (refine calmRow_skip ?_ ?_; (focus (go_simp; (try (intro hx; cases hx)); done)); (try simp only [Act.put, List.setIfInBounds_toArray, List.set_cons_zero, List.set_cons_succ])) | (refine calmRow_take (v := ?_) ?_ ?_ ?_; rotate_left; (focus (go_simp; done)); (focus (intro wx hSx; (try dsimp only at hSx); have hcx := HKK.out wx hSx; go_simp; (first | with_reducible rfl | exact ⟨rfl, hSx⟩))); (try simp only [Act.put, List.setIfInBounds_toArray, List.set_cons_zero, List.set_cons_succ])))
          refine calmRow_nil ?_
          intro wn hFx
          try dsimp only at hFx
          go_wp2_with fail
          go_meet
          exact ⟨rfl, hFx⟩
      obtain ⟨rfl, hF7⟩ := hcut
      have HH7 := hid (HH.out.same hF7)
      clear HH hF7 z0 HBB
      have hct8 := HCT.out.1 _ HH7.out.fr
      have z8 := cell_blk (i := 0) (HH7.out.blk 1 rfl) rfl
      have hkn8 : (k : Int) < n := by have := HLT.out.1; omega
      go_upto_region 8 with (fail)
      go_cut [11, 12] from 32 to 144 (fun s11 s12 wx => ∃ am cm, s11 = .string t ∧ s12 = .slice am m.length cm ∧ St (.of w0) wx [DkT D d, BlkT ob (.cells #[.slice (some ⟨bt, ot, none⟩) n tc, .slice ma nm mc, .int .i64 yn, .int .i64 yb] 42), TxT la lc l, WlT B D x, TxT am cm m])
      case first =>
        rcases HTM.out with ⟨rfl, rfl, rfl⟩ | ⟨rfl, rfl, rfl⟩
        · go_wp2_with fail
          refine (behind_snap _ _ _ _).mono ?_
          rintro e w9 ⟨rfl, rfl⟩
          have HN9 := hid HH7.out.none
          go_wp2_with fail
          go_meet
          exact ⟨.none, 0, rfl, rfl, HN9.out⟩
        · have HBH := hid (st_behind HH7.out t r (HH7.out.in_ 2 rfl) HLEN.out)
          go_wp2_with fail
          refine HBH.out.mono ?_
          rintro e w9 ⟨am, cm, rfl, H9⟩
          have HN9 := hid (show St (.of w0) w9 [DkT D d, BlkT ob (.cells #[.slice (some ⟨bt, ot, none⟩) n tc, .slice ma nm mc, .int .i64 yn, .int .i64 yb] 42), TxT la lc l, WlT B D x, TxT am cm (l ++ [r])] from H9)
          clear H9 HBH
          go_wp2_with fail
          go_meet
          exact ⟨am, cm, by simp, by simp, HN9.out⟩
      obtain ⟨am, cm, rfl, rfl, H⟩ := hcut
      obtain ⟨d0, hd0⟩ : ∃ d0, d.forget = d0 := ⟨_, rfl⟩
      have hfg := st_forget H 0 rfl
      have hlg0 := hL.out.lg.forget
      have ha0 : d0.armed = 0 := by
        rw [← hd0]
        exact hL.out.armed.resolve_right (by have := HLT.out.1; omega)
      have hr0 : d0.raw.length = 0 := by rw [← hd0]; rfl
      rw [hd0] at hfg hlg0
      have HFG := hid hfg
      have HD0 := hid (And.intro hlg0 (And.intro ha0 hr0))
      clear hfg hlg0 ha0 hr0 hd0 H hct8 z8 hkn8 HH7
      go_wp2_with fail
      refine HFG.out.mono ?_
      rintro e w10 ⟨rfl, H⟩
      try simp only [List.nil_append, List.cons_append, List.set_cons_zero, List.set_cons_succ] at H
      have z10 := cell_blk (i := 0) (H.blk 1 rfl) rfl
      obtain ⟨lb, hlb⟩ : ∃ lb, ((k : Int) == (n : Int) - 1) = lb := ⟨_, rfl⟩
      have HLB := hid hlb
      have hwn : IntKind.i64.wrap ((n : Int) - 1) = (n : Int) - 1 := IntWalk.i64_in _ (by have := HNB.out.2.2.2.2.1; omega)
      have HCL := hid (st_clone H 0 rfl HD0.out.1.log.wf (by rw [HD0.out.2.2]; decide))
      clear H HFG
      go_wp2_with fail
      refine HCL.out.mono ?_
      rintro e w11 ⟨C, rfl, H⟩
      have H : St (.of w0) w11 [DkT D d0, BlkT ob (.cells #[.slice (some ⟨bt, ot, none⟩) n tc, .slice ma nm mc, .int .i64 yn, .int .i64 yb] 42), TxT la lc l, WlT B D x, TxT am cm m, DkT C d0] := by simpa using H
      have HH := hid H
      have z2 := cell_blk (i := 2) (H.blk 1 rfl) rfl
      have z3 := cell_blk (i := 3) (H.blk 1 rfl) rfl
      clear H HCL z10 hwn hlb
      have hpl := fun w' => place09 yb 129 w' HNB.out.2.2.1 HNB.out.2.2.2.1 (by decide) (by decide)
      have hpb0 : 0 ≤ yb % 129 := Int.emod_nonneg _ (by decide)
      have hpb1 : yb % 129 < 129 := Int.emod_lt_of_pos _ (by decide)
      obtain ⟨pb, hpb⟩ : ∃ pb, yb % 129 = pb := ⟨_, rfl⟩
      rw [hpb] at hpl hpb0 hpb1
      have HPL := hid hpl
      have HPB := hid (And.intro hpb0 hpb1)
      clear hpl hpb hpb0 hpb1
      go_upto_region 12 with (fail)
      go_cut [93] from 32 to 144 (fun s93 wx => s93 = .bool false ∧ ∃ d1, Hid (Lc k n pb x d1 d0 s l) ∧ St (.of w0) wx [DkT D d1, BlkT ob (.cells #[.slice (some ⟨bt, ot, none⟩) n tc, .slice ma nm mc, .int .i64 yn, .int .i64 yb] 42), TxT la lc l, WlT B D x, TxT am cm m, DkT C d0])
      case first =>
        have HLC0 := hid (show Lc k n pb x d0 d0 s l from ⟨HD0.out.1, .inl HD0.out.2.1, fun h => absurd HD0.out.2.1 h, HD0.out.2.2, HD0.out.1, HD0.out.2.1, HD0.out.2.2, rfl⟩)
        cases lb
        case false =>
          have HKK := hid (fun (wx : World) (h : Fr [] w11 wx) => (show wx.cell? ⟨ob, 2, none⟩ = some (.int .i64 yn) from h.cell0 z2))
          clear z2 z3
          refine wp_region_calm (S := fun wx : World => Fr [] w11 wx) (by kernel_rfl) (by kernel_rfl) ((Fr.refl _ _).drew) ?_
          repeat (first | (refine calmRow_free (v := ?_) rfl ?_ ?_; rotate_left; (focus (intro wx hSx; (try dsimp only at hSx); have hcx := HKK.out wx hSx; go_simp; (first | with_reducible rfl | exact ⟨rfl, hSx⟩))); (try simp only [Act.put, List.setIfInBounds_toArray, List.set_cons_zero, List.set_cons_succ])) | (refine calmRow_skip ?_ ?_; (focus (go_simp; (try (intro hx; cases hx)); done)); (try simp only [Act.put, List.setIfInBounds_toArray, List.set_cons_zero, List.set_cons_succ])) | (refine calmRow_take (v := ?_) ?_ ?_ ?_; rotate_left; (focus (go_simp; done)); (focus (intro wx hSx; (try dsimp only at hSx); have hcx := HKK.out wx hSx; go_simp; (first | with_reducible rfl | exact ⟨rfl, hSx⟩))); (try simp only [Act.put, List.setIfInBounds_toArray, List.set_cons_zero, List.set_cons_succ])))
          refine calmRow_nil ?_
          intro wn hFx
          try dsimp only at hFx
          have HE := hid (HH.out.same hFx)
          go_wp2_with fail
          go_meet
          exact ⟨rfl, d0, HLC0, HE.out⟩
        case true =>
          by_cases hpos : 0 < yn
          · have hlast : k + 1 = n := by have := eq_of_beq HLB.out; have := HLT.out.1; omega
            have harm := st_arm HH.out.drew 0 rfl yn pb
            have hla := HD0.out.1.arm (n := yn) (b := pb) (by omega) (by have := HNB.out.2.1; omega) HPB.out.1 (by have := HPB.out.2; omega)
            rw [hla.1] at harm
            obtain ⟨d1, hd1⟩ : ∃ d1, (d0.arm yn pb).2 = d1 := ⟨_, rfl⟩
            rw [hd1] at harm hla
            have HARM := hid harm
            have HLC := hid (show Lc k n pb x d1 d0 s l from ⟨hla.2.1, .inr hlast, fun _ => hla.2.2.2.1, by rw [hla.2.2.2.2.1]; exact HD0.out.2.2, HD0.out.1, HD0.out.2.1, HD0.out.2.2, by rw [hla.2.2.2.2.2]⟩)
            have hpd : decide ((0 : Int) < yn) = true := decide_eq_true hpos
            clear hlast harm hla hd1 hpos
            go_region_held3 (fun wx : World => wx.cell? ⟨ob, 2, none⟩ = some (.int .i64 yn) ∧ wx.cell? ⟨ob, 3, none⟩ = some (.int .i64 yb)) ((first | exact hNow | exact ⟨z2, z3⟩))
              (first
                | (go_at_call 20; with_reducible refine (HPL.out _).mono ?_; rintro e w2 ⟨rfl, rfl⟩)
                | (go_at_call 19; refine HARM.out.mono ?_; rintro e w4 ⟨rfl, H4⟩; have hNow := And.intro (cell_blk (i := 2) (H4.blk 1 rfl) rfl) (cell_blk (i := 3) (H4.blk 1 rfl) rfl); have HH4 := hid H4; clear H4))
            clear hNow z2 z3
            go_wp2_with fail
            go_meet
            exact ⟨rfl, d1, HLC, HH4.out⟩
          · have hpd : decide ((0 : Int) < yn) = false := decide_eq_false hpos
            have HKK := hid (fun (wx : World) (h : Fr [] w11 wx) => (show wx.cell? ⟨ob, 2, none⟩ = some (.int .i64 yn) from h.cell0 z2))
            clear z2 z3 hpos
            refine wp_region_calm (S := fun wx : World => Fr [] w11 wx) (by kernel_rfl) (by kernel_rfl) ((Fr.refl _ _).drew) ?_
            repeat (first | (refine calmRow_free (v := ?_) rfl ?_ ?_; rotate_left; (focus (intro wx hSx; (try dsimp only at hSx); have hcx := HKK.out wx hSx; go_simp; (first | with_reducible rfl | exact ⟨rfl, hSx⟩))); (try simp only [Act.put, List.setIfInBounds_toArray, List.set_cons_zero, List.set_cons_succ])) | (refine calmRow_skip ?_ ?_; (focus (go_simp; (try (intro hx; cases hx)); done)); (try simp only [Act.put, List.setIfInBounds_toArray, List.set_cons_zero, List.set_cons_succ])) | (refine calmRow_take (v := ?_) ?_ ?_ ?_; rotate_left; (focus (go_simp; done)); (focus (intro wx hSx; (try dsimp only at hSx); have hcx := HKK.out wx hSx; go_simp; (first | with_reducible rfl | exact ⟨rfl, hSx⟩))); (try simp only [Act.put, List.setIfInBounds_toArray, List.set_cons_zero, List.set_cons_succ])))
            refine calmRow_nil ?_
            intro wn hFx
            try dsimp only at hFx
            have HE := hid (HH.out.same hFx)
            go_wp2_with fail
            go_meet
            exact ⟨rfl, d0, HLC0, HE.out⟩
      obtain ⟨rfl, d1, hLC, H⟩ := hcut
      clear HH z2 z3
      have z0 := cell_blk (i := 0) (H.blk 1 rfl) rfl
      have ct := HCT.out.1 _ H.fr
      have hkn8 : (k : Int) < n := by have := HLT.out.1; omega
      rcases HTM.out with ⟨rfl, ht, hm⟩ | ⟨rfl, ht, hm⟩
      · have hcall := st_wsnapshot H 3 0 (B := B) (D := D) (x := x) (d := d1) rfl rfl (by decide) hLC.out.lg.log.i r (by have := HCT.out.2; omega) (by rw [hLC.out.raw]; decide)
        have HM := hid (And.intro ht hm)
        clear ht hm
        rcases lc_snapshot hLC.out r with ⟨h0, h2, hsame⟩ | ⟨h0, hLi⟩ | ⟨h2, hkn, hdone, ts, tl, q, mm, hmm, hCut⟩
        · obtain ⟨z, hz⟩ : ∃ z, (x.snapshot d1 r).1 = z := ⟨_, rfl⟩
          rw [hsame, hz] at hcall
          rw [hz] at h0 h2
          have hz0 : (z == 0) = false := by rw [beq_eq_false_iff_ne]; exact h0
          have hz2 : (z == 2) = false := by rw [beq_eq_false_iff_ne]; exact h2
          have HCALL := hid hcall
          clear hcall hsame hz h0 h2 H
          go_wp2_with fail
          refine HCALL.out.mono ?_
          rintro e w12 ⟨rfl, H⟩
          try simp only [List.nil_append, List.cons_append, List.set_cons_zero, List.set_cons_succ] at H
          clear HCALL ct z0 hkn8
          have HTD := hid (st_told H 0 rfl (hLC.out.lg.lay) (hLC.out.lg.log.on))
          clear H
          go_wp2_with fail
          refine HTD.out.mono ?_
          rintro e w13 ⟨p13, rfl, H⟩
          have HSM := hid (st_same H (H.in_ 6 rfl) (H.in_ 2 rfl))
          clear H HTD
          go_wp2_with fail
          refine HSM.out.mono ?_
          rintro e w14 ⟨rfl, H⟩
          have HEND := hid (H.take 4)
          clear H HSM
          have hwk := HK.out
          go_wp2_with fail
          go_roundw
          case rel => exact ⟨k + 1, x, d1, s, l, la, lc, HLT.out.1, by go_num, rfl, rfl, hid ⟨hLC.out.lg, hLC.out.armed, by rw [hLC.out.raw]; decide⟩, HEND.out⟩
          case measure => have := HLT.out.1; simp [intOf]; omega
        · obtain ⟨x', hx'⟩ : ∃ z, (x.snapshot d1 r).2.1 = z := ⟨_, rfl⟩
          obtain ⟨d', hd'⟩ : ∃ z, (x.snapshot d1 r).2.2 = z := ⟨_, rfl⟩
          rw [h0, hx', hd'] at hcall
          rw [hx', hd'] at hLi
          have hLi' : Li (k + 1) n x' d' t m := by rw [HM.out.1, HM.out.2]; exact hLi
          have HLi := hid hLi'
          have HCALL := hid hcall
          clear hcall h0 hLi hLi' hx' hd' H
          go_wp2_with fail
          refine HCALL.out.mono ?_
          rintro e w12 ⟨rfl, H⟩
          try simp only [List.nil_append, List.cons_append, List.set_cons_zero, List.set_cons_succ] at H
          clear HCALL ct z0 hkn8
          have HTD := hid (st_told H 0 rfl (HLi.out.lg.lay) (HLi.out.lg.log.on))
          clear H
          go_wp2_with fail
          refine HTD.out.mono ?_
          rintro e w13 ⟨p13, rfl, H⟩
          have HSM := hid (st_same H (H.in_ 6 rfl) (H.in_ 4 rfl))
          clear H HTD
          go_wp2_with fail
          refine HSM.out.mono ?_
          rintro e w14 ⟨rfl, H⟩
          have HEND := hid (H.sub (A := [DkT D d', BlkT ob (.cells #[.slice (some ⟨bt, ot, none⟩) n tc, .slice ma nm mc, .int .i64 yn, .int .i64 yb] 42), TxT am cm m, WlT B D x']) (B := [TxT la lc l, DkT C d0, TxT p13 m.length m]) perm7)
          clear H HSM
          have hwk := HK.out
          go_wp2_with fail
          go_roundw
          case rel => exact ⟨k + 1, x', d', t, m, am, cm, HLT.out.1, by go_num, rfl, rfl, HLi, HEND.out⟩
          case measure => have := HLT.out.1; simp [intOf]; omega
        · obtain ⟨x', hx'⟩ : ∃ z, (x.snapshot d1 r).2.1 = z := ⟨_, rfl⟩
          obtain ⟨d', hd'⟩ : ∃ z, (x.snapshot d1 r).2.2 = z := ⟨_, rfl⟩
          rw [h2, hx', hd'] at hcall
          rw [hx', hd'] at hCut
          have hCut' : CutI x' d' d0 x s t l m ts tl q mm pb := by rw [HM.out.1, HM.out.2]; exact hCut
          have HCT2 := hid (And.intro hCut' (And.intro hdone hmm))
          have HCALL := hid hcall
          clear hcall h2 hCut hCut' hx' hd' H hdone hmm hkn
          go_wp2_with fail
          refine HCALL.out.mono ?_
          rintro e w12 ⟨rfl, H⟩
          try simp only [List.nil_append, List.cons_append, List.set_cons_zero, List.set_cons_succ] at H
          have z3 := cell_blk (i := 3) (H.blk 1 rfl) rfl
          have HC5 := hid (H.sub (A := [DkT D d', DkT C d0, WlT B D x', TxT la lc l, TxT am cm m]) (B := [BlkT ob (.cells #[.slice (some ⟨bt, ot, none⟩) n tc, .slice ma nm mc, .int .i64 yn, .int .i64 yb] 42)]) perm6)
          clear HCALL ct z0 hkn8 H
          go_wp2_with fail
          refine (HPL.out _).mono ?_
          rintro e w13 ⟨rfl, rfl⟩
          clear z3
          go_wp2_with fail
          refine (st_cutS HC5.out HCT2.out.1 (by rw [HM.out.1]; have := HCT.out.2; omega) (by rw [HM.out.2]; rfl) (by rw [HM.out.1]; exact HCT2.out.2)).mono ?_
          rintro e w14 ⟨rfl, H⟩
          have HE := hid H
          clear H
          go_wp2_with fail
          go_ret
          obtain ⟨h9, hl9⟩ := HCT2.out.1.lay
          exact ⟨rfl, d'.revive, h9, ts, tl, ⟨hl9.revive, rfl, rfl, by show d'.raw.length ≤ 600; rw [HCT2.out.1.raw]; exact HCT2.out.1.q600⟩, HE.out⟩
      · have hcall := st_wappend H 3 0 (B := B) (D := D) (x := x) (d := d1) rfl rfl (by decide) hLC.out.lg.log.i r (by have := HCT.out.2; omega) (by rw [hLC.out.raw]; decide)
        have HM := hid (And.intro ht hm)
        clear ht hm
        rcases lc_append hLC.out r with ⟨h0, h2, hsame⟩ | ⟨h0, hLi⟩ | ⟨h2, hkn, hdone, ts, tl, q, mm, hmm, hCut⟩
        · obtain ⟨z, hz⟩ : ∃ z, (x.append d1 r).1 = z := ⟨_, rfl⟩
          rw [hsame, hz] at hcall
          rw [hz] at h0 h2
          have hz0 : (z == 0) = false := by rw [beq_eq_false_iff_ne]; exact h0
          have hz2 : (z == 2) = false := by rw [beq_eq_false_iff_ne]; exact h2
          have HCALL := hid hcall
          clear hcall hsame hz h0 h2 H
          go_wp2_with fail
          refine HCALL.out.mono ?_
          rintro e w12 ⟨rfl, H⟩
          try simp only [List.nil_append, List.cons_append, List.set_cons_zero, List.set_cons_succ] at H
          clear HCALL ct z0 hkn8
          have HTD := hid (st_told H 0 rfl (hLC.out.lg.lay) (hLC.out.lg.log.on))
          clear H
          go_wp2_with fail
          refine HTD.out.mono ?_
          rintro e w13 ⟨p13, rfl, H⟩
          have HSM := hid (st_same H (H.in_ 6 rfl) (H.in_ 2 rfl))
          clear H HTD
          go_wp2_with fail
          refine HSM.out.mono ?_
          rintro e w14 ⟨rfl, H⟩
          have HEND := hid (H.take 4)
          clear H HSM
          have hwk := HK.out
          go_wp2_with fail
          go_roundw
          case rel => exact ⟨k + 1, x, d1, s, l, la, lc, HLT.out.1, by go_num, rfl, rfl, hid ⟨hLC.out.lg, hLC.out.armed, by rw [hLC.out.raw]; decide⟩, HEND.out⟩
          case measure => have := HLT.out.1; simp [intOf]; omega
        · obtain ⟨x', hx'⟩ : ∃ z, (x.append d1 r).2.1 = z := ⟨_, rfl⟩
          obtain ⟨d', hd'⟩ : ∃ z, (x.append d1 r).2.2 = z := ⟨_, rfl⟩
          rw [h0, hx', hd'] at hcall
          rw [hx', hd'] at hLi
          have hLi' : Li (k + 1) n x' d' t m := by rw [HM.out.1, HM.out.2]; exact hLi
          have HLi := hid hLi'
          have HCALL := hid hcall
          clear hcall h0 hLi hLi' hx' hd' H
          go_wp2_with fail
          refine HCALL.out.mono ?_
          rintro e w12 ⟨rfl, H⟩
          try simp only [List.nil_append, List.cons_append, List.set_cons_zero, List.set_cons_succ] at H
          clear HCALL ct z0 hkn8
          have HTD := hid (st_told H 0 rfl (HLi.out.lg.lay) (HLi.out.lg.log.on))
          clear H
          go_wp2_with fail
          refine HTD.out.mono ?_
          rintro e w13 ⟨p13, rfl, H⟩
          have HSM := hid (st_same H (H.in_ 6 rfl) (H.in_ 4 rfl))
          clear H HTD
          go_wp2_with fail
          refine HSM.out.mono ?_
          rintro e w14 ⟨rfl, H⟩
          have HEND := hid (H.sub (A := [DkT D d', BlkT ob (.cells #[.slice (some ⟨bt, ot, none⟩) n tc, .slice ma nm mc, .int .i64 yn, .int .i64 yb] 42), TxT am cm m, WlT B D x']) (B := [TxT la lc l, DkT C d0, TxT p13 m.length m]) perm7)
          clear H HSM
          have hwk := HK.out
          go_wp2_with fail
          go_roundw
          case rel => exact ⟨k + 1, x', d', t, m, am, cm, HLT.out.1, by go_num, rfl, rfl, HLi, HEND.out⟩
          case measure => have := HLT.out.1; simp [intOf]; omega
        · obtain ⟨x', hx'⟩ : ∃ z, (x.append d1 r).2.1 = z := ⟨_, rfl⟩
          obtain ⟨d', hd'⟩ : ∃ z, (x.append d1 r).2.2 = z := ⟨_, rfl⟩
          rw [h2, hx', hd'] at hcall
          rw [hx', hd'] at hCut
          have hCut' : CutI x' d' d0 x s t l m ts tl q mm pb := by rw [HM.out.1, HM.out.2]; exact hCut
          have HCT2 := hid (And.intro hCut' (And.intro hdone hmm))
          have HCALL := hid hcall
          clear hcall h2 hCut hCut' hx' hd' H hdone hmm hkn
          go_wp2_with fail
          refine HCALL.out.mono ?_
          rintro e w12 ⟨rfl, H⟩
          try simp only [List.nil_append, List.cons_append, List.set_cons_zero, List.set_cons_succ] at H
          have z3 := cell_blk (i := 3) (H.blk 1 rfl) rfl
          have HC5 := hid (H.sub (A := [DkT D d', DkT C d0, WlT B D x', TxT la lc l, TxT am cm m]) (B := [BlkT ob (.cells #[.slice (some ⟨bt, ot, none⟩) n tc, .slice ma nm mc, .int .i64 yn, .int .i64 yb] 42)]) perm6)
          clear HCALL ct z0 hkn8 H
          go_wp2_with fail
          refine (HPL.out _).mono ?_
          rintro e w13 ⟨rfl, rfl⟩
          clear z3
          go_wp2_with fail
          refine (st_cutA HC5.out HCT2.out.1 (by have := HCT.out.2; omega) l.length (by rw [HM.out.2, List.length_append]; rfl) HLEN.out (by rw [HM.out.2]; unfold strV sAt; simp [List.getD]) HCT2.out.2).mono ?_
          rintro e w14 ⟨rfl, H⟩
          have HE := hid H
          clear H
          go_wp2_with fail
          go_ret
          obtain ⟨h9, hl9⟩ := HCT2.out.1.lay
          exact ⟨rfl, d'.revive, h9, ts, tl, ⟨hl9.revive, rfl, rfl, by show d'.raw.length ≤ 600; rw [HCT2.out.1.raw]; exact HCT2.out.1.q600⟩, HE.out⟩
    · obtain rfl : k = n := by omega
      have HLL := hid hL.out
      have HAR := hid (st_arm H 0 rfl 0 0)
      have harm := hL.out.lg.arm (n := 0) (b := 0) (by decide) (by decide) (by decide) (by decide)
      rw [harm.1] at HAR
      have HAM := hid harm
      clear H hk hlt harm
      go_wp2_with fail
      refine HAR.out.mono ?_
      rintro e w3 ⟨rfl, H⟩
      have HE := hid (H.take 1)
      clear H HAR
      go_wp2_with fail
      go_ret
      exact ⟨rfl, _, _, _, _, ⟨HAM.out.2.1.lay, HAM.out.2.1.log.on, HAM.out.2.2.1, by rw [HAM.out.2.2.2.2.1]; exact HLL.out.raw⟩, HE.out⟩
end Go.Proofs.Ythghnlgojmedgaa
