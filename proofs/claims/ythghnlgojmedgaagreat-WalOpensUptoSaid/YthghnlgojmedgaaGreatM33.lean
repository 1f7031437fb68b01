/-
  Merged, in build order: V2.
-/
import Derived.Deep.RegionHeld3
import Derived.Deep.Cut
import Derived.Test.YthghnlgojmedgaaGreatM32
import Derived.Test.YthghnlgojmedgaaGreatM26
/-
  The document's log: right.
-/
namespace Go.Proofs.YthghnlgojmedgaaGreat
open Go.RowKit
set_option linter.unusedVariables false
set_option linter.unusedSimpArgs false

def vdN (b : ByteArray) : Int := valI (b.extract 0 8)
theorem parse_n {b : ByteArray} {g : WH} {a r : Nat} (hb : b = secB g) (hg : g.ok a r) (hr : r ≤ 65536) : vdN b = (g.number : Int) := by
  subst hb
  have h1 := (hg.bounds hr).1
  have hn := hg.n2
  have e : ofL (bl ((secB g).extract 0 8)) = g.number := by
    rw [extract_take, secB_bl g, List.drop_zero, show 8 - 0 = 8 from rfl, secL_front, ofL_hiL _ _ h1]
  unfold vdN
  rw [valI_nat (by omega), e]
theorem valI_four {s : ByteArray} (h : s.size ≤ 4) : valI s = (ofL (bl s) : Nat) := valI_nat (by have := (ofI_four h).2; omega)
theorem hT_part (ss : List ByteArray) (f s l rm : Nat) (t : ByteArray) (ht : bl t = hTake ss f rm) (hle : s + l ≤ rm) : bl (t.extract 0 s) = hTake ss f s ∧ hTake ss f (s + l) = bl (t.extract 0 s) ++ bl (t.extract s (s + l)) ∧ t.size = rm := by
  have hs : t.size = rm := by rw [← bl_len, ht, hTake_len]
  have e2 : (bl t).take (s + l) = hTake ss f (s + l) := by rw [ht, hTake_take _ _ hle]
  refine ⟨?_, ?_, hs⟩
  · rw [extract_bl, List.drop_zero, ht, hTake_take _ _ (by omega)]
  · rw [extract_bl, extract_bl, List.drop_zero, e2, ht, hTake_take _ _ (by omega)]
    have h := List.take_append_drop s (hTake ss f (s + l))
    rw [hTake_take _ _ (by omega)] at h
    exact h.symm
section
variable {W : Base} {w : World} {R : List Thing}
/-- What right comes to. -/
def RgTo (W : Base) (R : List Thing) (ss : List ByteArray) (a : Nat) (e : Ending) (w' : World) : Prop :=
  (∃ h s l, Fd ss a h s l ∧ ∃ p c, e = .returned (.tuple #[hV h, .string s, .slice p l.length c, .bool true]) ∧ St W w' (R ++ [TxT p c l])) ∨
  ((∀ h s l, ¬ Fd ss a h s l) ∧ e = .returned (.tuple #[hV ⟨0, 0, 0, 0⟩, .string ⟨#[]⟩, .slice none 0 0, .bool false]) ∧ St W w' R)

set_option maxHeartbeats 4000000 in
set_option maxRecDepth 100000 in
theorem st_rright (H : St W w R) (al : Option Addr) (cl : Nat) (ss : List ByteArray) (hin : In w 1 al ss.length cl (strV ss)) (hf : roomN ss.length ≠ 0) (hsz : ∀ i, i < ss.length → (sAt ss i).size = 128) (a : Nat) (ha : a ≤ 1) :
    Calls Tryz.prog 47 #[.slice al ss.length cl, .int .i64 a] w (RgTo W R ss a) := by
  have HHF := hid (fun (w' : World) (hF : Fr [] w w') (f : Nat) (hf1 : f ≤ 1) => ref_half w' al cl ss (hin.fr0 hF) hf hsz f hf1)
  obtain ⟨k1, k2, k3, k4⟩ := roomN_ok hf
  obtain ⟨lb, lo, rfl⟩ := hin.sm (by omega)
  obtain ⟨b, hb⟩ : ∃ b, sAt ss a = b := ⟨_, rfl⟩
  have hbs : b.size = 128 := by rw [← hb]; exact hsz a (by omega)
  have hc0 : w.cell? ⟨lb, lo + a, none⟩ = some (.string b) := by
    have h := hin.cell lb lo rfl a (by omega)
    rw [← hb]; exact h
  have HBB := hid hb
  obtain ⟨rm, hrm⟩ : ∃ rm, roomN ss.length = rm := ⟨_, rfl⟩
  have hrm1 : rm ≤ 65536 := by rw [← hrm]; exact roomN_le _
  have HRR := hid hrm
  have hm4 : IntKind.i64.wrap (128 * IntKind.i64.wrap (IntKind.i64.wrap ((ss.length : Int) / 2) - 1)) = (rm : Int) := by
    rw [← hrm, k4, IntWalk.i64_in ((ss.length : Int) / 2) (by omega), IntWalk.i64_in ((ss.length : Int) / 2 - 1) (by omega), IntWalk.i64_in _ (by omega)]; omega
  have hm5 : wrap64 (128 * wrap64 (wrap64 ((ss.length : Int) / 2) - 1)) = (rm : Int) := by
    rw [← hm4]; simp only [IntKind.wrap_i64, wrap64]
  obtain ⟨n0, hn0⟩ : ∃ n0, ss.length = n0 := ⟨_, rfl⟩
  rw [hrm] at HHF
  have HN0 := hid (And.intro hn0 (And.intro k3 k1))
  have haI : (a : Int) < (n0 : Int) := by omega
  rw [hn0] at hm4 hm5 HHF ⊢
  have HOF := hid (fun w s hs => ref_value w s hs)
  have s1 : (b.extract 0 8).size = 8 := by rw [ByteArray.size_extract]; omega
  have s2 : (b.extract 9 13).size = 4 := by rw [ByteArray.size_extract]; omega
  have s3 : (b.extract 13 17).size = 4 := by rw [ByteArray.size_extract]; omega
  obtain ⟨x1, hx1⟩ : ∃ x, b.extract 0 8 = x := ⟨_, rfl⟩
  obtain ⟨x2, hx2⟩ : ∃ x, b.extract 9 13 = x := ⟨_, rfl⟩
  obtain ⟨x3, hx3⟩ : ∃ x, b.extract 13 17 = x := ⟨_, rfl⟩
  rw [hx1] at s1
  rw [hx2] at s2
  rw [hx3] at s3
  have HO1 := hid (show x1.size ≤ 8 by omega)
  have HO2 := hid (show x2.size ≤ 8 by omega)
  have HO3 := hid (show x3.size ≤ 8 by omega)
  have HH := hid H
  have HM := hid (And.intro hm4 hm5)
  clear H hin hf hsz hb hrm s1 s2 s3 k1 k2 k3 k4 hn0 hm4 hm5
  go_enter Tryz.func47, Tryz.ntmps47
  have q1 : (8 : Int) ≤ (b.size : Int) := by omega
  have q2 : (13 : Int) ≤ (b.size : Int) := by omega
  have q3 : (17 : Int) ≤ (b.size : Int) := by omega
  have q4 : (8 : Int) < (b.size : Int) := by omega
  have hfb : ∀ h : 8 < b.size, IntKind.i64.wrap (((b[8]'h).toNat : Nat) : Int) = (hdF b : Int) := fun h => by
    have e : (b[8]'h).toNat = hdF b := by
      unfold hdF gB
      rw [List.getD_eq_getElem?_getD, List.getElem?_eq_getElem (show 8 < (bl b).length from h)]; rfl
    rw [e]
    have := hdF_lt b
    exact IntWalk.i64_in _ (by omega)
  have e1 : valI x1 = vdN b := by rw [← hx1]; rfl
  have e2 : valI x2 = (hdS b : Int) := by rw [← hx2]; exact valI_four (by rw [ByteArray.size_extract]; omega)
  have e3 : valI x3 = (hdL b : Int) := by rw [← hx3]; exact valI_four (by rw [ByteArray.size_extract]; omega)
  have HE := hid (And.intro hfb (And.intro e1 (And.intro e2 e3)))
  clear hfb e1 e2 e3
  have hc1 := ((Fr.refl [] w).alloc (Obj.cells #[.int .i64 0, .int .i64 0, .int .i64 0, .int .i64 0] 68)).cell0 hc0
  clear hc0
  go_upto_region 2 with (fail)
  go_cut [9] from 13 (fun s10 wx => s10 = .pointer (some ⟨w.heap.size + 1, 0, none⟩) ∧ wx = ((w.alloc (Obj.cells #[.int .i64 0, .int .i64 0, .int .i64 0, .int .i64 0] 68)).alloc (.cells #[.int .i64 (vdN b), .int .i64 (hdF b : Nat), .int .i64 (hdS b : Nat), .int .i64 (hdL b : Nat)] 68)).drew)
  case first =>
    clear hc1 haI
    go_region_held3 (fun wx : World => True) ((exact trivial)) (first | (go_at_call 68; refine (HOF.out _ _ (by first | with_reducible exact HO1.out | with_reducible exact HO2.out | with_reducible exact HO3.out)).mono ?_; rintro e wn ⟨rfl, rfl⟩))
    all_goals
      go_wp2_with fail
      go_meet
      refine ⟨rfl, ?_⟩
      rw [HE.out.1, HE.out.2.1, HE.out.2.2.1, HE.out.2.2.2]
  obtain ⟨rfl, rfl⟩ := hcut
  clear q1 q2 q3 q4 hx1 hx2 hx3 HO1 HO2 HO3 HOF HE hc1 haI
  have hn3 := hdF_lt b
  have hn4 := hdS_lt (b := b)
  have hn5 := hdL_lt (b := b)
  have hps := hid (fun (g : WH) (s : ByteArray) (l : List ByteArray) (h : Fd ss a g s l) => And.intro h (And.intro (parse_n (HBB.out.symm.trans h.sec) h.ok (roomN_le _)) (parse (HBB.out.symm.trans h.sec) h.ok (roomN_le _)).2))
  have hno1 := hid (show vdN b < 1 ∨ ∃ N : Nat, vdN b = N by
    rcases valI_neg (s := b.extract 0 8) with h | h
    · exact .inl (by unfold vdN; rw [h]; decide)
    · exact .inr ⟨_, h⟩)
  generalize vdN b = n at hps hno1 ⊢
  generalize hdF b = f at hps hn3 ⊢
  generalize hdS b = s at hps hn4 ⊢
  generalize hdL b = l at hps hn5 ⊢
  obtain ⟨W0, hW0⟩ : ∃ W0 : World, W0 = ((w.alloc (Obj.cells #[.int .i64 0, .int .i64 0, .int .i64 0, .int .i64 0] 68)).alloc (Obj.cells #[.int .i64 n, .int .i64 (f : Nat), .int .i64 (s : Nat), .int .i64 (l : Nat)] 68)).drew := ⟨_, rfl⟩
  have hS0 : St W W0 (R ++ (BlkT w.heap.size (Obj.cells #[.int .i64 0, .int .i64 0, .int .i64 0, .int .i64 0] 68) :: [BlkT (w.heap.size + 1) (Obj.cells #[.int .i64 n, .int .i64 (f : Nat), .int .i64 (s : Nat), .int .i64 (l : Nat)] 68)])) := by
    rw [hW0]
    have h := ((HH.out.alloc (Obj.cells #[.int .i64 0, .int .i64 0, .int .i64 0, .int .i64 0] 68)).allocAt (Obj.cells #[.int .i64 n, .int .i64 (f : Nat), .int .i64 (s : Nat), .int .i64 (l : Nat)] 68) (w.heap.size + 1) (by simp)).drew
    rw [List.append_assoc] at h
    exact h
  have hF0 : Fr [] w W0 := by rw [hW0]; exact (((Fr.refl [] w).alloc _).alloc _).drew
  have hb1 : W0.heap[w.heap.size + 1]? = some (.cells #[.int .i64 n, .int .i64 (f : Nat), .int .i64 (s : Nat), .int .i64 (l : Nat)] 68 (0, 0)) := by rw [hW0]; exact blk_drew (blk_alloc_at _ _ _ (by simp))
  have HSB := hid hS0
  have HF0 := hid hF0
  have HB1 := hid hb1
  rw [← hW0]
  clear hW0 hS0 hb1 HH hF0
  have HSC := hid (fun (w : World) (N : Nat) (h1 : N ≤ 9223372036854775807) (h2 : f ≤ 255) => (show Calls Tryz.prog 30 #[.agg #[.int .i64 N, .int .i64 f, .int .i64 s, .int .i64 l]] w fun e w' => e = .returned (.string (secB ⟨N, f, s, l⟩)) ∧ Fr [] w w' from ref_sector w ⟨N, f, s, l⟩ h1 h2 (by show s ≤ _; omega) (by show l ≤ _; omega)))
  have c0 := cell_blk (i := 0) HB1.out rfl
  have c1 := cell_blk (i := 1) HB1.out rfl
  have c2 := cell_blk (i := 2) HB1.out rfl
  have c3 := cell_blk (i := 3) HB1.out rfl
  go_upto_region 3 with (fail)
  go_cut [54] from 30 (fun s73 wx => (s73 = .bool false ∧ Hid (∃ N : Nat, n = N ∧ 1 ≤ N ∧ N ≤ 1099511627776 ∧ N % 2 = a ∧ f ≤ 1 ∧ s ≤ 17000) ∨ s73 = .bool true ∧ Hid (∀ g s l, ¬ Fd ss a g s l)) ∧ wx = W0)
  case first =>
    by_cases k1 : n < 1
    · have hno : Hid (∀ g s l, ¬ Fd ss a g s l) := hid (fun g s l h => by have h1 := hps.out g s l h; have := h1.1.ok.n1; have := h1.2.1; omega)
      have b1 : decide (n < 1) = true := decide_eq_true k1
      clear hps k1
      go_wp2_with fail
      go_meet
      exact ⟨.inr ⟨rfl, hno⟩, rfl⟩
    obtain ⟨N, rfl⟩ : ∃ N : Nat, n = N := hno1.out.resolve_left k1
    have b1 : decide ((N : Int) < 1) = false := decide_eq_false k1
    have b1' : decide (N < 1) = false := decide_eq_false (by omega)
    by_cases k2 : 1099511627776 < N
    · have hno : Hid (∀ g s l, ¬ Fd ss a g s l) := hid (fun g s l h => by have h1 := hps.out g s l h; have := h1.1.ok.n2; have := h1.2.1; omega)
      have b2 : decide ((1099511627776 : Int) < N) = true := decide_eq_true (by omega)
      clear hps k1 k2
      go_wp2_with fail
      go_meet
      exact ⟨.inr ⟨rfl, hno⟩, rfl⟩
    have b2 : decide ((1099511627776 : Int) < N) = false := decide_eq_false (by omega)
    by_cases k3 : ¬ N % 2 = a
    · have hno : Hid (∀ g s l, ¬ Fd ss a g s l) := hid (fun g s l h => by have h1 := hps.out g s l h; have := h1.1.ok.par; have := h1.2.1; omega)
      have b3 : ((N : Int).tmod 2 != (a : Int)) = true := by rw [bne_iff_ne, Int.tmod_eq_emod_of_nonneg (by omega)]; omega
      have b3' : ((N : Int) % 2 != (a : Int)) = true := by rw [bne_iff_ne]; omega
      clear hps k1 k2 k3
      go_wp2_with fail
      go_meet
      exact ⟨.inr ⟨rfl, hno⟩, rfl⟩
    have k3 : N % 2 = a := Decidable.not_not.1 k3
    have b3 : ((N : Int).tmod 2 != (a : Int)) = false := by rw [bne_eq_false_iff_eq, Int.tmod_eq_emod_of_nonneg (by omega)]; omega
    have b3' : ((N : Int) % 2 != (a : Int)) = false := by rw [bne_eq_false_iff_eq]; omega
    by_cases k4 : 1 < f
    · have hno : Hid (∀ g s l, ¬ Fd ss a g s l) := hid (fun g s l h => by have h1 := hps.out g s l h; have := h1.1.ok.half1; have := h1.2.2.1; omega)
      have b4 : decide ((1 : Int) < f) = true := decide_eq_true (by omega)
      have b4' : decide (1 < f) = true := decide_eq_true (by omega)
      clear hps k1 k2 k3 k4
      go_wp2_with fail
      go_meet
      exact ⟨.inr ⟨rfl, hno⟩, rfl⟩
    have b4 : decide ((1 : Int) < f) = false := decide_eq_false (by omega)
    have b4' : decide (1 < f) = false := decide_eq_false (by omega)
    by_cases k6 : 17000 < s
    · have hno : Hid (∀ g s l, ¬ Fd ss a g s l) := hid (fun g s l h => by have h1 := hps.out g s l h; have := h1.1.ok.snap1; have := h1.2.2.2.1; omega)
      have b6 : decide ((17000 : Int) < s) = true := decide_eq_true (by omega)
      clear hps k1 k2 k3 k4 k6
      go_wp2_with fail
      go_meet
      exact ⟨.inr ⟨rfl, hno⟩, rfl⟩
    have b6 : decide ((17000 : Int) < s) = false := decide_eq_false (by omega)
    have hyes := hid (show ∃ N' : Nat, (N : Int) = N' ∧ 1 ≤ N' ∧ N' ≤ 1099511627776 ∧ N' % 2 = a ∧ f ≤ 1 ∧ s ≤ 17000 from ⟨N, rfl, by omega, by omega, k3, by omega, by omega⟩)
    clear hps k1 k2 k3 k4 k6
    go_wp2_with fail
    go_meet
    exact ⟨.inl ⟨rfl, hyes⟩, rfl⟩
  obtain ⟨hcase, rfl⟩ := hcut
  clear c0 c1 c2 c3 hno1
  rcases hcase with ⟨rfl, hy⟩ | ⟨rfl, HNO⟩
  · obtain ⟨N, rfl, hN1, hN2, hpar, hf1, hs1⟩ := hy.out
    have c0 := cell_blk (i := 0) HB1.out rfl
    have c1 := cell_blk (i := 1) HB1.out rfl
    have c2 := cell_blk (i := 2) HB1.out rfl
    have c3 := cell_blk (i := 3) HB1.out rfl
    have HSC2 := hid (fun w => HSC.out w N (by omega) (by omega))
    have wsl : IntKind.i64.wrap ((s : Int) + l) = (s : Int) + l := IntWalk.i64_in _ (by omega)
    have HOK := hid (And.intro hN1 (And.intro hN2 (And.intro hpar (And.intro hf1 hs1))))
    have HLS := hid (And.intro hn4 hn5)
    clear hy hN1 hN2 hpar hf1 hs1 hn3 hn4 hn5 HSC
    by_cases c5 : ¬ secB ⟨N, f, s, l⟩ = b
    · have HNO : Hid (∀ g s l, ¬ Fd ss a g s l) := hid (fun g s' l' h => by
        have h1 := hps.out g s' l' h
        refine c5 ?_
        rw [← HBB.out, h.sec, show (⟨N, f, s, l⟩ : WH) = g by cases g; simp only [WH.mk.injEq]; have := h1.2; simp only at this; omega])
      have b5 : ((secB ⟨N, f, s, l⟩).toList == b.toList) = false := bytes_ne c5
      clear hps c5
      go_wp2_with fail
      refine (HSC2.out _).mono ?_
      rintro e w2 ⟨rfl, hF2⟩
      have HS := hid (HSB.out.same hF2)
      clear hF2 c0 c1 c2 c3
      have hblz := HS.out.blk (R.length + 0) (b := w.heap.size) (o := (Obj.cells #[.int .i64 0, .int .i64 0, .int .i64 0, .int .i64 0] 68)) (by rw [get_behind]; rfl)
      have z0 := cell_blk (i := 0) hblz rfl
      have z1 := cell_blk (i := 1) hblz rfl
      have z2 := cell_blk (i := 2) hblz rfl
      have z3 := cell_blk (i := 3) hblz rfl
      have y0 := free_blk (i := 0) hblz
      have y1 := free_blk (i := 1) hblz
      have y2 := free_blk (i := 2) hblz
      have y3 := free_blk (i := 3) hblz
      have hltz := lt_of_block hblz
      have H4 := hid (HS.out.blk4 (.int .i64 0) (.int .i64 0) (.int .i64 0) (.int .i64 0))
      clear hblz
      go_wp2_with fail
      clear z0 z1 z2 z3 y0 y1 y2 y3 hltz
      obtain ⟨wz, hwz⟩ : ∃ wz : World, ((((w2.setCell ⟨w.heap.size, 0, none⟩ (.int .i64 0)).setCell ⟨w.heap.size, 1, none⟩ (.int .i64 0)).setCell ⟨w.heap.size, 2, none⟩ (.int .i64 0)).setCell ⟨w.heap.size, 3, none⟩ (.int .i64 0)) = wz := ⟨_, rfl⟩
      have H5 := H4.out
      rw [hwz] at H5 ⊢
      have hbz := H5.blk (R.length + 0) (b := w.heap.size) (by rw [get_behind]; rfl)
      have x0 := cell_blk (i := 0) hbz rfl
      have x1 := cell_blk (i := 1) hbz rfl
      have x2 := cell_blk (i := 2) hbz rfl
      have x3 := cell_blk (i := 3) hbz rfl
      refine bodyPost_ret (v := .tuple #[.agg #[.int .i64 0, .int .i64 0, .int .i64 0, .int .i64 0], .string ⟨#[]⟩, .slice none 0 0, .bool false]) (by simp [results, Tryz.results47, go_sem, x0, x1, x2, x3]) rfl ?_
      exact .inr ⟨HNO.out, rfl, H5.drop⟩
    have c5 : secB ⟨N, f, s, l⟩ = b := Classical.not_not.1 c5
    have b5 : ((secB ⟨N, f, s, l⟩).toList == b.toList) = true := by rw [c5]; exact beq_self_eq_true _
    have hm5 := HM.out.2
    have hm4 := HM.out.1
    by_cases c7 : rm < s + l
    · have HNO : Hid (∀ g s l, ¬ Fd ss a g s l) := hid (fun g s l h => by have h1 := hps.out g s l h; have := h1.1.ok.fit; have := h1.2.2; have := HRR.out; omega)
      have b7 : decide ((rm : Int) < s + l) = true := decide_eq_true (by omega)
      clear hps c5 c7
      go_wp2_with fail
      refine (HSC2.out _).mono ?_
      rintro e w2 ⟨rfl, hF2⟩
      have HS := hid (HSB.out.same hF2)
      have d2 := hF2.cell0 c2
      have d3 := hF2.cell0 c3
      clear hF2 c0 c1 c2 c3
      have hblz := HS.out.blk (R.length + 0) (b := w.heap.size) (o := (Obj.cells #[.int .i64 0, .int .i64 0, .int .i64 0, .int .i64 0] 68)) (by rw [get_behind]; rfl)
      have z0 := cell_blk (i := 0) hblz rfl
      have z1 := cell_blk (i := 1) hblz rfl
      have z2 := cell_blk (i := 2) hblz rfl
      have z3 := cell_blk (i := 3) hblz rfl
      have y0 := free_blk (i := 0) hblz
      have y1 := free_blk (i := 1) hblz
      have y2 := free_blk (i := 2) hblz
      have y3 := free_blk (i := 3) hblz
      have hltz := lt_of_block hblz
      have H4 := hid (HS.out.blk4 (.int .i64 0) (.int .i64 0) (.int .i64 0) (.int .i64 0))
      clear hblz
      go_wp2_with fail
      clear z0 z1 z2 z3 y0 y1 y2 y3 hltz
      obtain ⟨wz, hwz⟩ : ∃ wz : World, ((((w2.setCell ⟨w.heap.size, 0, none⟩ (.int .i64 0)).setCell ⟨w.heap.size, 1, none⟩ (.int .i64 0)).setCell ⟨w.heap.size, 2, none⟩ (.int .i64 0)).setCell ⟨w.heap.size, 3, none⟩ (.int .i64 0)) = wz := ⟨_, rfl⟩
      have H5 := H4.out
      rw [hwz] at H5 ⊢
      have hbz := H5.blk (R.length + 0) (b := w.heap.size) (by rw [get_behind]; rfl)
      have x0 := cell_blk (i := 0) hbz rfl
      have x1 := cell_blk (i := 1) hbz rfl
      have x2 := cell_blk (i := 2) hbz rfl
      have x3 := cell_blk (i := 3) hbz rfl
      refine bodyPost_ret (v := .tuple #[.agg #[.int .i64 0, .int .i64 0, .int .i64 0, .int .i64 0], .string ⟨#[]⟩, .slice none 0 0, .bool false]) (by simp [results, Tryz.results47, go_sem, x0, x1, x2, x3]) rfl ?_
      exact .inr ⟨HNO.out, rfl, H5.drop⟩
    have b7 : decide ((rm : Int) < s + l) = false := decide_eq_false (by omega)
    have HFD := hid (And.intro c5 (show (⟨N, f, s, l⟩ : WH).ok a rm from ⟨by have := HOK.out.1; simp only; omega, by have := HOK.out.2.1; simp only; omega, HOK.out.2.2.1, by have := HOK.out.2.2.2.1; simp only; omega, by have := HOK.out.2.2.2.2; simp only; omega, by simp only; omega⟩))
    have HC7 := hid c7
    clear hps c5 c7
    go_wp2_with fail
    refine (HSC2.out _).mono ?_
    rintro e w2 ⟨rfl, hF2⟩
    have HS := hid (HSB.out.same hF2)
    have d1 := hF2.cell0 c1
    have d2 := hF2.cell0 c2
    have d3 := hF2.cell0 c3
    have HHL := hid (HHF.out w2 (HF0.out.trans hF2) f HOK.out.2.2.2.1)
    clear hF2 c0 c1 c2 c3 HSC2 HHF
    go_wp2_with fail
    refine HHL.out.mono ?_
    rintro e w3 ⟨rfl, hF3⟩
    have e2 := hF3.cell0 d2
    have e3 := hF3.cell0 d3
    have hS3 := HS.out.same hF3
    obtain ⟨t, ht⟩ : ∃ t : ByteArray, ⟨(hTake ss f rm).toArray⟩ = t := ⟨_, rfl⟩
    rw [ht]
    obtain ⟨t1, t2, t3⟩ := hT_part ss f s l rm t (by rw [← ht, bl_mk]) (by have := HC7.out; omega)
    obtain ⟨u, hu⟩ : ∃ u, t.extract s (s + l) = u := ⟨_, rfl⟩
    obtain ⟨v, hv⟩ : ∃ v, t.extract 0 s = v := ⟨_, rfl⟩
    rw [hu, hv] at t2
    rw [hv] at t1
    have HFR := hid (st_rcut hS3 u (by rw [← hu, ByteArray.size_extract]; have := HC7.out; omega))
    have g1 : (s : Int) ≤ (t.size : Int) := by have := HC7.out; omega
    have g3 : (s : Int) + l ≤ (t.size : Int) := by have := HC7.out; omega
    have g2 : (s : Int) ≤ (s : Int) + l := by omega
    have HT := hid (And.intro t1 (And.intro t2 t3))
    clear hS3 t1 t2 t3 ht hF3 d1 d2 d3 HHL HS b5 b7
    go_wp2_with fail
    with_reducible refine HFR.out.mono ?_
    rintro e w4 hw4
    clear HFR e2 e3 g3 g2
    rcases hw4 with ⟨l', h1, h2, q, c', rfl, h3⟩ | ⟨h1, rfl, h3⟩
    · rw [List.append_assoc] at h3
      have HFDD := hid (show Fd ss a ⟨N, f, s, l⟩ v l' from ⟨HBB.out.trans HFD.out.1.symm, by rw [HRR.out]; exact HFD.out.2, HT.out.1, by rw [HT.out.2.1, h2], h1⟩)
      have HS3 := hid h3
      have hblz := h3.blk (R.length + 0) (b := w.heap.size) (o := (Obj.cells #[.int .i64 0, .int .i64 0, .int .i64 0, .int .i64 0] 68)) (by rw [get_behind]; rfl)
      have hblh := h3.blk (R.length + 1) (b := w.heap.size + 1) (o := .cells #[.int .i64 (N : Nat), .int .i64 (f : Nat), .int .i64 (s : Nat), .int .i64 (l : Nat)] 68) (by rw [get_behind]; rfl)
      have HBZ := hid hblz
      have HBH := hid hblh
      clear h1 h2 h3 hblz hblh
      go_wp2_with fail
      have c0 := cell_blk (i := 0) (blk_drew HBH.out) rfl
      have c1 := cell_blk (i := 1) (blk_drew HBH.out) rfl
      have c2 := cell_blk (i := 2) (blk_drew HBH.out) rfl
      have c3 := cell_blk (i := 3) (blk_drew HBH.out) rfl
      have z0 := cell_blk (i := 0) (blk_drew HBZ.out) rfl
      have z1 := cell_blk (i := 1) (blk_drew HBZ.out) rfl
      have z2 := cell_blk (i := 2) (blk_drew HBZ.out) rfl
      have z3 := cell_blk (i := 3) (blk_drew HBZ.out) rfl
      have y0 : w4.drew.frozen? ⟨w.heap.size, 0, none⟩ = false := free_blk (blk_drew HBZ.out)
      have y1 : w4.drew.frozen? ⟨w.heap.size, 1, none⟩ = false := free_blk (blk_drew HBZ.out)
      have y2 : w4.drew.frozen? ⟨w.heap.size, 2, none⟩ = false := free_blk (blk_drew HBZ.out)
      have y3 : w4.drew.frozen? ⟨w.heap.size, 3, none⟩ = false := free_blk (blk_drew HBZ.out)
      have mixed : Tryz.prog.follows .mixedOrders = true := by kernel_rfl
      have k0 := cell_blk (i := 0) HBZ.out rfl
      have k1 := cell_blk (i := 1) HBZ.out rfl
      have k2 := cell_blk (i := 2) HBZ.out rfl
      have k3 := cell_blk (i := 3) HBZ.out rfl
      have j0 := free_blk (i := 0) HBZ.out
      have j1 := free_blk (i := 1) HBZ.out
      have j2 := free_blk (i := 2) HBZ.out
      have j3 := free_blk (i := 3) HBZ.out
      have l0 := cell_blk (i := 0) HBH.out rfl
      have l1 := cell_blk (i := 1) HBH.out rfl
      have l2 := cell_blk (i := 2) HBH.out rfl
      have l3 := cell_blk (i := 3) HBH.out rfl
      have hlz := lt_of_block HBZ.out
      have H4 := hid (HS3.out.blk4 (.int .i64 (N : Nat)) (.int .i64 (f : Nat)) (.int .i64 (s : Nat)) (.int .i64 (l : Nat))).drew
      go_region_o
      all_goals
        clear c0 c1 c2 c3 z0 z1 z2 z3 y0 y1 y2 y3 mixed k0 k1 k2 k3 j0 j1 j2 j3 hlz l0 l1 l2 l3
        go_wp2_with fail
        obtain ⟨wz, hwz⟩ : ∃ wz : World, ((((w4.setCell ⟨w.heap.size, 0, none⟩ (.int .i64 (N : Nat))).setCell ⟨w.heap.size, 1, none⟩ (.int .i64 (f : Nat))).setCell ⟨w.heap.size, 2, none⟩ (.int .i64 (s : Nat))).setCell ⟨w.heap.size, 3, none⟩ (.int .i64 (l : Nat))).drew = wz := ⟨_, rfl⟩
        have H5 := H4.out
        rw [hwz] at H5 ⊢
        have hbz := H5.blk (R.length + 0) (b := w.heap.size) (by rw [get_behind]; rfl)
        have x0 := cell_blk (i := 0) hbz rfl
        have x1 := cell_blk (i := 1) hbz rfl
        have x2 := cell_blk (i := 2) hbz rfl
        have x3 := cell_blk (i := 3) hbz rfl
        refine bodyPost_ret (v := .tuple #[.agg #[.int .i64 (N : Nat), .int .i64 (f : Nat), .int .i64 (s : Nat), .int .i64 (l : Nat)], .string v, .slice q l'.length c', .bool true]) (by simp [results, Tryz.results47, go_sem, x0, x1, x2, x3, hv]) rfl ?_
        refine .inl ⟨_, v, l', HFDD.out, q, c', rfl, ?_⟩
        refine H5.sub (B := [BlkT w.heap.size (.cells #[.int .i64 (N : Nat), .int .i64 (f : Nat), .int .i64 (s : Nat), .int .i64 (l : Nat)] 68), BlkT (w.heap.size + 1) (.cells #[.int .i64 (N : Nat), .int .i64 (f : Nat), .int .i64 (s : Nat), .int .i64 (l : Nat)] 68)]) ?_
        rw [List.append_assoc]
        exact List.Perm.append_left _ (perm3 _ _ _)
    · have HNO : Hid (∀ g s l, ¬ Fd ss a g s l) := hid (fun g s' l' h => by
        have hg : (⟨N, f, s, l⟩ : WH) = g := secB_inj HFD.out.2 h.ok (by have := roomN_le ss.length; have := HRR.out; omega) (roomN_le _) (HFD.out.1.trans (HBB.out.symm.trans h.sec))
        subst hg
        have h4 := h.all
        have h5 : bl s' = bl v := by rw [h.snap, HT.out.1]
        rw [h5, HT.out.2.1] at h4
        exact h1 l' h.recs (List.append_cancel_left h4))
      have HS := hid h3
      clear h1 h3 g1
      have hblz := HS.out.blk (R.length + 0) (b := w.heap.size) (o := (Obj.cells #[.int .i64 0, .int .i64 0, .int .i64 0, .int .i64 0] 68)) (by rw [get_behind]; rfl)
      have z0 := cell_blk (i := 0) hblz rfl
      have z1 := cell_blk (i := 1) hblz rfl
      have z2 := cell_blk (i := 2) hblz rfl
      have z3 := cell_blk (i := 3) hblz rfl
      have y0 := free_blk (i := 0) hblz
      have y1 := free_blk (i := 1) hblz
      have y2 := free_blk (i := 2) hblz
      have y3 := free_blk (i := 3) hblz
      have hltz := lt_of_block hblz
      have H4 := hid (HS.out.blk4 (.int .i64 0) (.int .i64 0) (.int .i64 0) (.int .i64 0))
      clear hblz
      go_wp2_with fail
      clear z0 z1 z2 z3 y0 y1 y2 y3 hltz
      obtain ⟨wz, hwz⟩ : ∃ wz : World, ((((w4.setCell ⟨w.heap.size, 0, none⟩ (.int .i64 0)).setCell ⟨w.heap.size, 1, none⟩ (.int .i64 0)).setCell ⟨w.heap.size, 2, none⟩ (.int .i64 0)).setCell ⟨w.heap.size, 3, none⟩ (.int .i64 0)) = wz := ⟨_, rfl⟩
      have H5 := H4.out
      rw [hwz] at H5 ⊢
      have hbz := H5.blk (R.length + 0) (b := w.heap.size) (by rw [get_behind]; rfl)
      have x0 := cell_blk (i := 0) hbz rfl
      have x1 := cell_blk (i := 1) hbz rfl
      have x2 := cell_blk (i := 2) hbz rfl
      have x3 := cell_blk (i := 3) hbz rfl
      refine bodyPost_ret (v := .tuple #[.agg #[.int .i64 0, .int .i64 0, .int .i64 0, .int .i64 0], .string ⟨#[]⟩, .slice none 0 0, .bool false]) (by simp [results, Tryz.results47, go_sem, x0, x1, x2, x3]) rfl ?_
      exact .inr ⟨HNO.out, rfl, H5.drop⟩
  · have HS := HSB
    clear hps hn3 hn4 hn5 HSC
    have hblz := HS.out.blk (R.length + 0) (b := w.heap.size) (o := (Obj.cells #[.int .i64 0, .int .i64 0, .int .i64 0, .int .i64 0] 68)) (by rw [get_behind]; rfl)
    have z0 := cell_blk (i := 0) hblz rfl
    have z1 := cell_blk (i := 1) hblz rfl
    have z2 := cell_blk (i := 2) hblz rfl
    have z3 := cell_blk (i := 3) hblz rfl
    have y0 := free_blk (i := 0) hblz
    have y1 := free_blk (i := 1) hblz
    have y2 := free_blk (i := 2) hblz
    have y3 := free_blk (i := 3) hblz
    have hltz := lt_of_block hblz
    have H4 := hid (HS.out.blk4 (.int .i64 0) (.int .i64 0) (.int .i64 0) (.int .i64 0))
    clear hblz
    go_wp2_with fail
    clear z0 z1 z2 z3 y0 y1 y2 y3 hltz
    obtain ⟨wz, hwz⟩ : ∃ wz : World, ((((wc.setCell ⟨w.heap.size, 0, none⟩ (.int .i64 0)).setCell ⟨w.heap.size, 1, none⟩ (.int .i64 0)).setCell ⟨w.heap.size, 2, none⟩ (.int .i64 0)).setCell ⟨w.heap.size, 3, none⟩ (.int .i64 0)) = wz := ⟨_, rfl⟩
    have H5 := H4.out
    rw [hwz] at H5 ⊢
    have hbz := H5.blk (R.length + 0) (b := w.heap.size) (by rw [get_behind]; rfl)
    have x0 := cell_blk (i := 0) hbz rfl
    have x1 := cell_blk (i := 1) hbz rfl
    have x2 := cell_blk (i := 2) hbz rfl
    have x3 := cell_blk (i := 3) hbz rfl
    refine bodyPost_ret (v := .tuple #[.agg #[.int .i64 0, .int .i64 0, .int .i64 0, .int .i64 0], .string ⟨#[]⟩, .slice none 0 0, .bool false]) (by simp [results, Tryz.results47, go_sem, x0, x1, x2, x3]) rfl ?_
    exact .inr ⟨HNO.out, rfl, H5.drop⟩
end
end Go.Proofs.YthghnlgojmedgaaGreat
