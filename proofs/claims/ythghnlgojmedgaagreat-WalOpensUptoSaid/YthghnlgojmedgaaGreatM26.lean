/-
  Merged, in build order: WE.
-/
import Derived.Deep.CutRange
import Derived.Deep.CutBlock
import Derived.Test.YthghnlgojmedgaaGreatM25
/-
  wal: found.
-/
namespace Go.Proofs.YthghnlgojmedgaaGreat
open Go.RowKit
set_option linter.unusedVariables false
set_option linter.unusedSimpArgs false

theorem ofI_nat {s : ByteArray} (h : ofL (bl s) ≤ 9223372036854775807) : ofI s = (ofL (bl s) : Nat) := IntWalk.i64_in _ (by omega)
theorem ofI_four {s : ByteArray} (h : s.size ≤ 4) : ofI s = (ofL (bl s) : Nat) ∧ ofL (bl s) < 4294967296 := by
  have h1 := ofL_lt (bl s)
  have h2 : 256 ^ (bl s).length ≤ 256 ^ 4 := Nat.pow_le_pow_right (by decide) h
  have h3 : (256 : Nat) ^ 4 = 4294967296 := by decide
  exact ⟨ofI_nat (by omega), by omega⟩
/-- What a sector's bytes tell. -/
structure Hd where
  n : Int
  f : Nat
  s : Nat
  l : Nat
def hdN (b : ByteArray) : Int := ofI (b.extract 0 8)
def hdF (b : ByteArray) : Nat := (gB b 8).toNat
def hdS (b : ByteArray) : Nat := ofL (bl (b.extract 9 13))
def hdL (b : ByteArray) : Nat := ofL (bl (b.extract 13 17))
theorem extract_take (b : ByteArray) (p q : Nat) : bl (b.extract p q) = ((bl b).drop p).take (q - p) := by
  rw [extract_bl, List.drop_take]
theorem parse {b : ByteArray} {g : WH} {a r : Nat} (hb : b = secB g) (hg : g.ok a r) (hr : r ≤ 65536) : hdN b = (g.number : Int) ∧ hdF b = g.half ∧ hdS b = g.snap ∧ hdL b = g.log := by
  subst hb
  obtain ⟨h1, h2, h3, h4⟩ := hg.bounds hr
  have hn := hg.n2
  have e0 : bl (secB g) = secL g := secB_bl g
  refine ⟨?_, ?_, ?_, ?_⟩
  · unfold hdN
    have e : ofL (bl ((secB g).extract 0 8)) = g.number := by
      rw [extract_take, e0, List.drop_zero, show 8 - 0 = 8 from rfl, secL_front, ofL_hiL _ _ h1]
    rw [ofI_nat (by omega), e]
  · unfold hdF gB
    rw [e0, secL, List.getD_eq_getElem?_getD, List.getElem?_append_right (by rw [hiL_len]; omega), hiL_len]
    simp
    omega
  · unfold hdS
    rw [extract_take, e0, secL, show 9 = (hiL g.number 8 ++ [g.half.toUInt8]).length by simp [hiL_len], ← List.append_assoc (hiL g.number 8), List.drop_left, List.take_left' (by simp [hiL_len]), ofL_hiL _ _ h3]
  · unfold hdL
    have e : secL g = (hiL g.number 8 ++ ([g.half.toUInt8] ++ hiL g.snap 4)) ++ (hiL g.log 4 ++ (List.replicate 103 0 ++ hiL g.number 8)) := by unfold secL; simp only [List.append_assoc]
    rw [extract_take, e0, e, List.drop_left' (by simp [hiL_len]), List.take_left' (by simp [hiL_len]), ofL_hiL _ _ h4]
theorem hdS_lt {b : ByteArray} : hdS b < 4294967296 := (ofI_four (s := b.extract 9 13) (by rw [ByteArray.size_extract]; omega)).2
theorem hdL_lt {b : ByteArray} : hdL b < 4294967296 := (ofI_four (s := b.extract 13 17) (by rw [ByteArray.size_extract]; omega)).2
theorem hdF_lt (b : ByteArray) : hdF b < 256 := UInt8.toNat_lt _

section
variable {W : Base} {w : World} {R : List Thing}

/-- What found comes to. -/
def FdTo (W : Base) (R : List Thing) (ss : List ByteArray) (a : Nat) (e : Ending) (w' : World) : Prop :=
  (∃ h s l, Fd ss a h s l ∧ ∃ p, e = .returned (.tuple #[hV h, .string s, .slice p l.length l.length, .bool true]) ∧ St W w' (R ++ [WvT 9 1 p l.length (strV l)])) ∨
  ((∀ h s l, ¬ Fd ss a h s l) ∧ ∃ h s, e = .returned (.tuple #[hV h, .string s, .slice none 0 0, .bool false]) ∧ St W w' R)

theorem perm3 {α : Type} (a b c : α) : [a, b, c].Perm ([c] ++ [a, b]) :=
  (List.perm_append_comm (l₁ := [a, b]) (l₂ := [c]))
theorem St.blk4 {T rest : List Thing} {b : Nat} {u0 u1 u2 u3 : Value} {t : TypeId} (v0 v1 v2 v3 : Value) (H : St W w (T ++ (BlkT b (.cells #[u0, u1, u2, u3] t) :: rest))) :
    St W ((((w.setCell ⟨b, 0, none⟩ v0).setCell ⟨b, 1, none⟩ v1).setCell ⟨b, 2, none⟩ v2).setCell ⟨b, 3, none⟩ v3) (T ++ (BlkT b (.cells #[v0, v1, v2, v3] t) :: rest)) := by
  have e : ∀ A B : Thing, (T ++ (A :: rest)).set T.length B = T ++ (B :: rest) := fun A B => by simp
  have g : ∀ A : Thing, (T ++ (A :: rest))[T.length]? = some A := fun A => by simp
  have h1 := H.setBlk T.length (g _) 0 v0
  simp only [e, List.setIfInBounds_toArray, List.set_cons_zero, List.set_cons_succ] at h1
  have h2 := h1.setBlk T.length (g _) 1 v1
  simp only [e, List.setIfInBounds_toArray, List.set_cons_zero, List.set_cons_succ] at h2
  have h3 := h2.setBlk T.length (g _) 2 v2
  simp only [e, List.setIfInBounds_toArray, List.set_cons_zero, List.set_cons_succ] at h3
  have h4 := h3.setBlk T.length (g _) 3 v3
  simp only [e, List.setIfInBounds_toArray, List.set_cons_zero, List.set_cons_succ] at h4
  exact h4
theorem hT_split (ss : List ByteArray) (f s l : Nat) (t : ByteArray) (ht : bl t = hTake ss f (s + l)) : bl (t.extract 0 s) = hTake ss f s ∧ hTake ss f (s + l) = bl (t.extract 0 s) ++ bl (t.extract s (s + l)) ∧ t.size = s + l := by
  have hs : t.size = s + l := by rw [← bl_len, ht, hTake_len]
  refine ⟨?_, ?_, hs⟩
  · rw [extract_bl, List.drop_zero, ht, hTake_take _ _ (by omega)]
  · rw [extract_bl, extract_bl, List.drop_zero, ← hs, show t.size = (bl t).length from rfl, List.take_length, List.take_append_drop]
    rw [show (bl t).length = s + l from hs, ht]

set_option maxHeartbeats 4000000 in
set_option maxRecDepth 100000 in
theorem st_wfound (H : St W w R) (i : Nat) {D : Nat} {d : DS} (hi : R[i]? = some (DkT D d)) (hw : d.wf) (hd : d.dead = false) (hf : roomN d.sec.length ≠ 0) (a : Nat) (ha : a ≤ 1) :
    Calls Tryz.prog 43 #[.pointer (some ⟨D, 0, none⟩), .int .i64 a] w (FdTo W R d.sec a) := by
  have hlen := (roomN_ok hf).1
  have HRM := hid (show ∀ w', St W w' R → Calls Tryz.prog 23 #[.pointer (some ⟨D, 0, none⟩)] w' fun e w'' => e = .returned (.int .i64 (roomN d.sec.length : Nat)) ∧ w' = w'' from fun w' h => by
    obtain ⟨F, hF⟩ := h.dk i hi
    exact wal_room w' F D d hF hw)
  have HRD := hid (show ∀ w', St W w' R → Calls Tryz.prog 63 #[.pointer (some ⟨D, 0, none⟩), .int .i64 a] w' fun e w'' => e = .returned (.tuple #[.string (sAt d.sec a), .int .i64 0]) ∧ w' = w'' from fun w' h => by
    obtain ⟨F, hF⟩ := h.dk i hi
    exact disk_read_yes w' F D d a hF hw hd (by omega))
  have HBY := hid (fun w' T (h : St W w' (R ++ T)) (half n : Nat) h1 h2 => st_wbytes h i (by rw [List.getElem?_append_left (lt_of_get hi)]; exact hi) hw hd hf half n h1 h2)
  obtain ⟨b, hb⟩ : ∃ b, sAt d.sec a = b := ⟨_, rfl⟩
  have hbs : b.size = 128 := by rw [← hb]; exact hw.sz a (by omega)
  rw [hb] at HRD
  have HBB := hid hb
  obtain ⟨rm, hrm⟩ : ∃ rm, roomN d.sec.length = rm := ⟨_, rfl⟩
  have hrm1 : rm ≤ 65536 := by rw [← hrm]; exact roomN_le _
  rw [hrm] at HRM
  have HRR := hid hrm
  have HOF := hid (fun w s hs => wal_of w s hs)
  have s1 : (b.extract 0 8).size = 8 := by rw [ByteArray.size_extract]; omega
  have s2 : (b.extract 9 13).size = 4 := by rw [ByteArray.size_extract]; omega
  have s3 : (b.extract 13 17).size = 4 := by rw [ByteArray.size_extract]; omega
  obtain ⟨x1, hx1⟩ : ∃ x, b.extract 0 8 = x := ⟨_, rfl⟩
  obtain ⟨x2, hx2⟩ : ∃ x, b.extract 9 13 = x := ⟨_, rfl⟩
  obtain ⟨x3, hx3⟩ : ∃ x, b.extract 13 17 = x := ⟨_, rfl⟩
  rw [hx1] at s1
  rw [hx2] at s2
  rw [hx3] at s3
  have HO1 := hid (show x1.size ≤ 8 by omega)
  have HO2 := hid (show x2.size ≤ 8 by omega)
  have HO3 := hid (show x3.size ≤ 8 by omega)
  have HH := hid H
  clear H hi hw hd hf hb hrm s1 s2 s3 hlen
  go_enter Tryz.func43, Tryz.ntmps43
  go_wp2_with fail
  refine (HRD.out _ (HH.out.alloc_ _)).mono ?_
  rintro e w1 ⟨rfl, rfl⟩
  have q1 : (8 : Int) ≤ (b.size : Int) := by omega
  have q2 : (13 : Int) ≤ (b.size : Int) := by omega
  have q3 : (17 : Int) ≤ (b.size : Int) := by omega
  have q4 : (8 : Int) < (b.size : Int) := by omega
  have hfb : ∀ h : 8 < b.size, IntKind.i64.wrap (((b[8]'h).toNat : Nat) : Int) = (hdF b : Int) := fun h => by
    have e : (b[8]'h).toNat = hdF b := by
      unfold hdF gB
      rw [List.getD_eq_getElem?_getD, List.getElem?_eq_getElem (show 8 < (bl b).length from h)]; rfl
    rw [e]
    have := hdF_lt b
    exact IntWalk.i64_in _ (by omega)
  have e1 : ofI x1 = hdN b := by rw [← hx1]; rfl
  have e2 : ofI x2 = (hdS b : Int) := by rw [← hx2]; exact (ofI_four (by rw [ByteArray.size_extract]; omega)).1
  have e3 : ofI x3 = (hdL b : Int) := by rw [← hx3]; exact (ofI_four (by rw [ByteArray.size_extract]; omega)).1
  have HE := hid (And.intro hfb (And.intro e1 (And.intro e2 e3)))
  clear hfb e1 e2 e3
  go_upto_region 2 with (fail)
  go_cut [10] from 20 (fun s10 wx => s10 = .pointer (some ⟨w.heap.size + 1, 0, none⟩) ∧ wx = ((w.alloc (Obj.cells #[.int .i64 0, .int .i64 0, .int .i64 0, .int .i64 0] 62)).alloc (.cells #[.int .i64 (hdN b), .int .i64 (hdF b : Nat), .int .i64 (hdS b : Nat), .int .i64 (hdL b : Nat)] 62)).drew)
  case first =>
    go_region_held3 (fun wx : World => True) ((exact trivial)) (first | (go_at_call 64; refine (HOF.out _ _ (by first | with_reducible exact HO1.out | with_reducible exact HO2.out | with_reducible exact HO3.out)).mono ?_; rintro e wn ⟨rfl, rfl⟩))
    all_goals
      go_wp2_with fail
      go_meet
      refine ⟨rfl, ?_⟩
      rw [HE.out.1, HE.out.2.1, HE.out.2.2.1, HE.out.2.2.2]
  obtain ⟨rfl, rfl⟩ := hcut
  clear q1 q2 q3 q4 hx1 hx2 hx3 HO1 HO2 HO3 HOF HE
  have hn3 := hdF_lt b
  have hn4 := hdS_lt (b := b)
  have hn5 := hdL_lt (b := b)
  have hps := hid (fun (g : WH) (s : ByteArray) (l : List ByteArray) (h : Fd d.sec a g s l) => And.intro h (parse (HBB.out.symm.trans h.sec) h.ok (roomN_le _)))
  generalize hdN b = n at hps ⊢
  generalize hdF b = f at hps hn3 ⊢
  generalize hdS b = s at hps hn4 ⊢
  generalize hdL b = l at hps hn5 ⊢
  obtain ⟨W0, hW0⟩ : ∃ W0 : World, W0 = ((w.alloc (Obj.cells #[.int .i64 0, .int .i64 0, .int .i64 0, .int .i64 0] 62)).alloc (.cells #[.int .i64 n, .int .i64 (f : Nat), .int .i64 (s : Nat), .int .i64 (l : Nat)] 62)).drew := ⟨_, rfl⟩
  have hS0 : St W W0 (R ++ (BlkT w.heap.size (Obj.cells #[.int .i64 0, .int .i64 0, .int .i64 0, .int .i64 0] 62) :: [BlkT (w.heap.size + 1) (.cells #[.int .i64 n, .int .i64 (f : Nat), .int .i64 (s : Nat), .int .i64 (l : Nat)] 62)])) := by
    rw [hW0]
    have h := ((HH.out.alloc (Obj.cells #[.int .i64 0, .int .i64 0, .int .i64 0, .int .i64 0] 62)).allocAt (.cells #[.int .i64 n, .int .i64 (f : Nat), .int .i64 (s : Nat), .int .i64 (l : Nat)] 62) (w.heap.size + 1) (by simp)).drew
    rw [List.append_assoc] at h
    exact h
  have hS1 : St W W0 R := hS0.drop
  have hb1 : W0.heap[w.heap.size + 1]? = some (.cells #[.int .i64 n, .int .i64 (f : Nat), .int .i64 (s : Nat), .int .i64 (l : Nat)] 62 (0, 0)) := by rw [hW0]; exact blk_drew (blk_alloc_at _ _ _ (by simp))
  have hb0 : W0.heap[w.heap.size]? = some (.cells #[.int .i64 0, .int .i64 0, .int .i64 0, .int .i64 0] 62 (0, 0)) := by rw [hW0]; exact blk_drew (blk_alloc_lt _ (blk_alloc_at _ _ _ rfl))
  have HSB := hid hS0
  have HS0 := hid hS1
  have HB1 := hid hb1
  have HB0 := hid hb0
  rw [← hW0]
  clear hW0 hS0 hS1 hb0 hb1 HRD HH
  have HK := hid (fun (wx : World) (h : Fr [] W0 wx) => (show wx.cell? ⟨w.heap.size + 1, 0, none⟩ = some (.int .i64 n) ∧ wx.cell? ⟨w.heap.size + 1, 1, none⟩ = some (.int .i64 (f : Nat)) ∧ wx.cell? ⟨w.heap.size + 1, 2, none⟩ = some (.int .i64 (s : Nat)) ∧ wx.cell? ⟨w.heap.size + 1, 3, none⟩ = some (.int .i64 (l : Nat)) from
    ⟨h.cell0 (cell_blk HB1.out rfl), h.cell0 (cell_blk HB1.out rfl), h.cell0 (cell_blk HB1.out rfl), h.cell0 (cell_blk HB1.out rfl)⟩))
  have HSC := hid (fun (w : World) (N : Nat) (h1 : N ≤ 9223372036854775807) (h2 : f ≤ 255) => (show Calls Tryz.prog 26 #[.agg #[.int .i64 N, .int .i64 f, .int .i64 s, .int .i64 l]] w fun e w' => e = .returned (.string (secB ⟨N, f, s, l⟩)) ∧ Fr [] w w' from wal_sector w ⟨N, f, s, l⟩ h1 h2 (by show s ≤ _; omega) (by show l ≤ _; omega)))
  go_upto_region 3 with (fail)
  go_cut [73] from 33 (fun s73 wx => (s73 = .bool false ∧ (∃ N : Nat, n = N ∧ secB ⟨N, f, s, l⟩ = b ∧ (⟨N, f, s, l⟩ : WH).ok a rm) ∨ s73 = .bool true ∧ (∀ g s l, ¬ Fd d.sec a g s l)) ∧ Fr [] W0 wx)
  case first =>
    by_cases c1 : n < 1
    · have hno : Hid (∀ g s l, ¬ Fd d.sec a g s l) := hid (fun g s l h => by have h1 := hps.out g s l h; have := h1.1.ok.n1; have := h1.2.1; omega)
      clear hps
      refine wp_region_calm (S := fun wx : World => Fr [] W0 wx) (by kernel_rfl) (lexB_of' (by kernel_rfl) (by kernel_rfl)) ((Fr.refl _ _).drew) ?_
      repeat (first | (refine calmRow_free (v := ?_) rfl ?_ ?_; rotate_left; (focus (intro wx hSx; (try dsimp only at hSx); have hcx := HK.out wx hSx; go_simp; (first | with_reducible rfl | exact ⟨rfl, hSx⟩))); (try simp only [Act.put, List.setIfInBounds_toArray, List.set_cons_zero, List.set_cons_succ])) | (refine calmRow_skip ?_ ?_; (focus (go_simp; (try (intro hx; cases hx)); done)); (try simp only [Act.put, List.setIfInBounds_toArray, List.set_cons_zero, List.set_cons_succ])) | (refine calmRow_take (v := ?_) ?_ ?_ ?_; rotate_left; (focus (go_simp; done)); (focus (intro wx hSx; (try dsimp only at hSx); have hcx := HK.out wx hSx; go_simp; (first | with_reducible rfl | exact ⟨rfl, hSx⟩))); (try simp only [Act.put, List.setIfInBounds_toArray, List.set_cons_zero, List.set_cons_succ])))
      refine calmRow_nil ?_
      intro wn hFx
      try dsimp only at hFx
      go_wp2_with fail
      go_meet
      exact ⟨.inr ⟨rfl, hno.out⟩, hFx⟩
    obtain ⟨N, rfl⟩ : ∃ N : Nat, n = N := ⟨n.toNat, by omega⟩
    by_cases c2 : 1099511627776 < N
    · have hno : Hid (∀ g s l, ¬ Fd d.sec a g s l) := hid (fun g s l h => by have h1 := hps.out g s l h; have := h1.1.ok.n2; have := h1.2.1; omega)
      have b1 : decide ((N : Int) < 1) = false := decide_eq_false c1
      have b2 : decide ((1099511627776 : Int) < N) = true := decide_eq_true (by omega)
      clear hps c1 c2
      refine wp_region_calm (S := fun wx : World => Fr [] W0 wx) (by kernel_rfl) (lexB_of' (by kernel_rfl) (by kernel_rfl)) ((Fr.refl _ _).drew) ?_
      repeat (first | (refine calmRow_free (v := ?_) rfl ?_ ?_; rotate_left; (focus (intro wx hSx; (try dsimp only at hSx); have hcx := HK.out wx hSx; go_simp; (first | with_reducible rfl | exact ⟨rfl, hSx⟩))); (try simp only [Act.put, List.setIfInBounds_toArray, List.set_cons_zero, List.set_cons_succ])) | (refine calmRow_skip ?_ ?_; (focus (go_simp; (try (intro hx; cases hx)); done)); (try simp only [Act.put, List.setIfInBounds_toArray, List.set_cons_zero, List.set_cons_succ])) | (refine calmRow_take (v := ?_) ?_ ?_ ?_; rotate_left; (focus (go_simp; done)); (focus (intro wx hSx; (try dsimp only at hSx); have hcx := HK.out wx hSx; go_simp; (first | with_reducible rfl | exact ⟨rfl, hSx⟩))); (try simp only [Act.put, List.setIfInBounds_toArray, List.set_cons_zero, List.set_cons_succ])))
      refine calmRow_nil ?_
      intro wn hFx
      try dsimp only at hFx
      go_wp2_with fail
      go_meet
      exact ⟨.inr ⟨rfl, hno.out⟩, hFx⟩
    have b1 : decide ((N : Int) < 1) = false := decide_eq_false c1
    have b2 : decide ((1099511627776 : Int) < N) = false := decide_eq_false (by omega)
    by_cases c3 : ¬ N % 2 = a
    · have hno : Hid (∀ g s l, ¬ Fd d.sec a g s l) := hid (fun g s l h => by have h1 := hps.out g s l h; have := h1.1.ok.par; have := h1.2.1; omega)
      have b3 : ((N : Int).tmod 2 != (a : Int)) = true := by rw [bne_iff_ne, Int.tmod_eq_emod_of_nonneg (by omega)]; omega
      clear hps c1 c2 c3
      refine wp_region_calm (S := fun wx : World => Fr [] W0 wx) (by kernel_rfl) (lexB_of' (by kernel_rfl) (by kernel_rfl)) ((Fr.refl _ _).drew) ?_
      repeat (first | (refine calmRow_free (v := ?_) rfl ?_ ?_; rotate_left; (focus (intro wx hSx; (try dsimp only at hSx); have hcx := HK.out wx hSx; go_simp; (first | with_reducible rfl | exact ⟨rfl, hSx⟩))); (try simp only [Act.put, List.setIfInBounds_toArray, List.set_cons_zero, List.set_cons_succ])) | (refine calmRow_skip ?_ ?_; (focus (go_simp; (try (intro hx; cases hx)); done)); (try simp only [Act.put, List.setIfInBounds_toArray, List.set_cons_zero, List.set_cons_succ])) | (refine calmRow_take (v := ?_) ?_ ?_ ?_; rotate_left; (focus (go_simp; done)); (focus (intro wx hSx; (try dsimp only at hSx); have hcx := HK.out wx hSx; go_simp; (first | with_reducible rfl | exact ⟨rfl, hSx⟩))); (try simp only [Act.put, List.setIfInBounds_toArray, List.set_cons_zero, List.set_cons_succ])))
      refine calmRow_nil ?_
      intro wn hFx
      try dsimp only at hFx
      go_wp2_with fail
      go_meet
      exact ⟨.inr ⟨rfl, hno.out⟩, hFx⟩
    have c3 : N % 2 = a := Decidable.not_not.1 c3
    have b3 : ((N : Int).tmod 2 != (a : Int)) = false := by rw [bne_eq_false_iff_eq, Int.tmod_eq_emod_of_nonneg (by omega)]; omega
    by_cases c4 : 1 < f
    · have hno : Hid (∀ g s l, ¬ Fd d.sec a g s l) := hid (fun g s l h => by have h1 := hps.out g s l h; have := h1.1.ok.half1; have := h1.2.2.1; omega)
      have b4 : decide ((1 : Int) < f) = true := decide_eq_true (by omega)
      clear hps c1 c2 c3 c4
      refine wp_region_calm (S := fun wx : World => Fr [] W0 wx) (by kernel_rfl) (lexB_of' (by kernel_rfl) (by kernel_rfl)) ((Fr.refl _ _).drew) ?_
      repeat (first | (refine calmRow_free (v := ?_) rfl ?_ ?_; rotate_left; (focus (intro wx hSx; (try dsimp only at hSx); have hcx := HK.out wx hSx; go_simp; (first | with_reducible rfl | exact ⟨rfl, hSx⟩))); (try simp only [Act.put, List.setIfInBounds_toArray, List.set_cons_zero, List.set_cons_succ])) | (refine calmRow_skip ?_ ?_; (focus (go_simp; (try (intro hx; cases hx)); done)); (try simp only [Act.put, List.setIfInBounds_toArray, List.set_cons_zero, List.set_cons_succ])) | (refine calmRow_take (v := ?_) ?_ ?_ ?_; rotate_left; (focus (go_simp; done)); (focus (intro wx hSx; (try dsimp only at hSx); have hcx := HK.out wx hSx; go_simp; (first | with_reducible rfl | exact ⟨rfl, hSx⟩))); (try simp only [Act.put, List.setIfInBounds_toArray, List.set_cons_zero, List.set_cons_succ])))
      refine calmRow_nil ?_
      intro wn hFx
      try dsimp only at hFx
      go_wp2_with fail
      go_meet
      exact ⟨.inr ⟨rfl, hno.out⟩, hFx⟩
    have b4 : decide ((1 : Int) < f) = false := decide_eq_false (by omega)
    have hN9 : N ≤ 9223372036854775807 := by omega
    by_cases c5 : ¬ secB ⟨N, f, s, l⟩ = b
    · have hno : Hid (∀ g s l, ¬ Fd d.sec a g s l) := hid (fun g s' l' h => by
        have h1 := hps.out g s' l' h
        refine c5 ?_
        rw [← HBB.out, h.sec, show (⟨N, f, s, l⟩ : WH) = g by cases g; simp only [WH.mk.injEq]; have := h1.2; simp only at this; omega])
      have b5 : ((secB ⟨N, f, s, l⟩).toList == b.toList) = false := bytes_ne c5
      clear hps c1 c2 c3 c4 c5
      refine wp_region_calm (S := fun wx : World => Fr [] W0 wx) (by kernel_rfl) (lexB_of' (by kernel_rfl) (by kernel_rfl)) ((Fr.refl _ _).drew) ?_
      repeat (first | (refine calmRow_free (v := ?_) rfl ?_ ?_; rotate_left; (focus (intro wx hSx; (try dsimp only at hSx); have hcx := HK.out wx hSx; go_simp; (first | with_reducible rfl | exact ⟨rfl, hSx⟩ | (refine (HSC.out _ N (by omega) (by omega)).mono ?_; rintro e w1 ⟨rfl, hF1⟩; refine ⟨?_, hSx.trans hF1⟩; with_reducible rfl) | (refine (HRM.out _ (HS0.out.same hSx)).mono ?_; rintro e w1 ⟨rfl, rfl⟩; refine ⟨?_, hSx⟩; with_reducible rfl)))); (try simp only [Act.put, List.setIfInBounds_toArray, List.set_cons_zero, List.set_cons_succ])) | (refine calmRow_skip ?_ ?_; (focus (go_simp; (try (intro hx; cases hx)); done)); (try simp only [Act.put, List.setIfInBounds_toArray, List.set_cons_zero, List.set_cons_succ])) | (refine calmRow_take (v := ?_) ?_ ?_ ?_; rotate_left; (focus (go_simp; done)); (focus (intro wx hSx; (try dsimp only at hSx); have hcx := HK.out wx hSx; go_simp; (first | with_reducible rfl | exact ⟨rfl, hSx⟩ | (refine (HSC.out _ N (by omega) (by omega)).mono ?_; rintro e w1 ⟨rfl, hF1⟩; refine ⟨?_, hSx.trans hF1⟩; with_reducible rfl) | (refine (HRM.out _ (HS0.out.same hSx)).mono ?_; rintro e w1 ⟨rfl, rfl⟩; refine ⟨?_, hSx⟩; with_reducible rfl)))); (try simp only [Act.put, List.setIfInBounds_toArray, List.set_cons_zero, List.set_cons_succ])))
      refine calmRow_nil ?_
      intro wn hFx
      try dsimp only at hFx
      go_wp2_with fail
      go_meet
      exact ⟨.inr ⟨rfl, hno.out⟩, hFx⟩
    have c5 : secB ⟨N, f, s, l⟩ = b := Classical.not_not.1 c5
    have b5 : ((secB ⟨N, f, s, l⟩).toList == b.toList) = true := by rw [c5]; exact beq_self_eq_true _
    by_cases c6 : 17000 < s
    · have hno : Hid (∀ g s l, ¬ Fd d.sec a g s l) := hid (fun g s l h => by have h1 := hps.out g s l h; have := h1.1.ok.snap1; have := h1.2.2.2.1; omega)
      have b6 : decide ((17000 : Int) < s) = true := decide_eq_true (by omega)
      clear hps c1 c2 c3 c4 c5 c6
      refine wp_region_calm (S := fun wx : World => Fr [] W0 wx) (by kernel_rfl) (lexB_of' (by kernel_rfl) (by kernel_rfl)) ((Fr.refl _ _).drew) ?_
      repeat (first | (refine calmRow_free (v := ?_) rfl ?_ ?_; rotate_left; (focus (intro wx hSx; (try dsimp only at hSx); have hcx := HK.out wx hSx; go_simp; (first | with_reducible rfl | exact ⟨rfl, hSx⟩ | (refine (HSC.out _ N (by omega) (by omega)).mono ?_; rintro e w1 ⟨rfl, hF1⟩; refine ⟨?_, hSx.trans hF1⟩; with_reducible rfl) | (refine (HRM.out _ (HS0.out.same hSx)).mono ?_; rintro e w1 ⟨rfl, rfl⟩; refine ⟨?_, hSx⟩; with_reducible rfl)))); (try simp only [Act.put, List.setIfInBounds_toArray, List.set_cons_zero, List.set_cons_succ])) | (refine calmRow_skip ?_ ?_; (focus (go_simp; (try (intro hx; cases hx)); done)); (try simp only [Act.put, List.setIfInBounds_toArray, List.set_cons_zero, List.set_cons_succ])) | (refine calmRow_take (v := ?_) ?_ ?_ ?_; rotate_left; (focus (go_simp; done)); (focus (intro wx hSx; (try dsimp only at hSx); have hcx := HK.out wx hSx; go_simp; (first | with_reducible rfl | exact ⟨rfl, hSx⟩ | (refine (HSC.out _ N (by omega) (by omega)).mono ?_; rintro e w1 ⟨rfl, hF1⟩; refine ⟨?_, hSx.trans hF1⟩; with_reducible rfl) | (refine (HRM.out _ (HS0.out.same hSx)).mono ?_; rintro e w1 ⟨rfl, rfl⟩; refine ⟨?_, hSx⟩; with_reducible rfl)))); (try simp only [Act.put, List.setIfInBounds_toArray, List.set_cons_zero, List.set_cons_succ])))
      refine calmRow_nil ?_
      intro wn hFx
      try dsimp only at hFx
      go_wp2_with fail
      go_meet
      exact ⟨.inr ⟨rfl, hno.out⟩, hFx⟩
    have b6 : decide ((17000 : Int) < s) = false := decide_eq_false (by omega)
    have wsl : IntKind.i64.wrap ((s : Int) + l) = (s : Int) + l := IntWalk.i64_in _ (by omega)
    by_cases c7 : rm < s + l
    · have hno : Hid (∀ g s l, ¬ Fd d.sec a g s l) := hid (fun g s l h => by have h1 := hps.out g s l h; have := h1.1.ok.fit; have := h1.2.2.2; have := HRR.out; omega)
      have b7 : decide ((rm : Int) < s + l) = true := decide_eq_true (by omega)
      clear hps c1 c2 c3 c4 c5 c6 c7
      refine wp_region_calm (S := fun wx : World => Fr [] W0 wx) (by kernel_rfl) (lexB_of' (by kernel_rfl) (by kernel_rfl)) ((Fr.refl _ _).drew) ?_
      repeat (first | (refine calmRow_free (v := ?_) rfl ?_ ?_; rotate_left; (focus (intro wx hSx; (try dsimp only at hSx); have hcx := HK.out wx hSx; go_simp; (first | with_reducible rfl | exact ⟨rfl, hSx⟩ | (refine (HSC.out _ N (by omega) (by omega)).mono ?_; rintro e w1 ⟨rfl, hF1⟩; refine ⟨?_, hSx.trans hF1⟩; with_reducible rfl) | (refine (HRM.out _ (HS0.out.same hSx)).mono ?_; rintro e w1 ⟨rfl, rfl⟩; refine ⟨?_, hSx⟩; with_reducible rfl)))); (try simp only [Act.put, List.setIfInBounds_toArray, List.set_cons_zero, List.set_cons_succ])) | (refine calmRow_skip ?_ ?_; (focus (go_simp; (try (intro hx; cases hx)); done)); (try simp only [Act.put, List.setIfInBounds_toArray, List.set_cons_zero, List.set_cons_succ])) | (refine calmRow_take (v := ?_) ?_ ?_ ?_; rotate_left; (focus (go_simp; done)); (focus (intro wx hSx; (try dsimp only at hSx); have hcx := HK.out wx hSx; go_simp; (first | with_reducible rfl | exact ⟨rfl, hSx⟩ | (refine (HSC.out _ N (by omega) (by omega)).mono ?_; rintro e w1 ⟨rfl, hF1⟩; refine ⟨?_, hSx.trans hF1⟩; with_reducible rfl) | (refine (HRM.out _ (HS0.out.same hSx)).mono ?_; rintro e w1 ⟨rfl, rfl⟩; refine ⟨?_, hSx⟩; with_reducible rfl)))); (try simp only [Act.put, List.setIfInBounds_toArray, List.set_cons_zero, List.set_cons_succ])))
      refine calmRow_nil ?_
      intro wn hFx
      try dsimp only at hFx
      go_wp2_with fail
      go_meet
      exact ⟨.inr ⟨rfl, hno.out⟩, hFx⟩
    · have hyes := hid (show ∃ N' : Nat, (N : Int) = N' ∧ secB ⟨N', f, s, l⟩ = b ∧ (⟨N', f, s, l⟩ : WH).ok a rm from ⟨N, rfl, c5, by simp only; omega, by simp only; omega, c3, by simp only; omega, by simp only; omega, by simp only; omega⟩)
      have b7 : decide ((rm : Int) < s + l) = false := decide_eq_false (by omega)
      clear hps c1 c2 c3 c4 c5 c6 c7
      refine wp_region_calm (S := fun wx : World => Fr [] W0 wx) (by kernel_rfl) (lexB_of' (by kernel_rfl) (by kernel_rfl)) ((Fr.refl _ _).drew) ?_
      repeat (first | (refine calmRow_free (v := ?_) rfl ?_ ?_; rotate_left; (focus (intro wx hSx; (try dsimp only at hSx); have hcx := HK.out wx hSx; go_simp; (first | with_reducible rfl | exact ⟨rfl, hSx⟩ | (refine (HSC.out _ N (by omega) (by omega)).mono ?_; rintro e w1 ⟨rfl, hF1⟩; refine ⟨?_, hSx.trans hF1⟩; with_reducible rfl) | (refine (HRM.out _ (HS0.out.same hSx)).mono ?_; rintro e w1 ⟨rfl, rfl⟩; refine ⟨?_, hSx⟩; with_reducible rfl)))); (try simp only [Act.put, List.setIfInBounds_toArray, List.set_cons_zero, List.set_cons_succ])) | (refine calmRow_skip ?_ ?_; (focus (go_simp; (try (intro hx; cases hx)); done)); (try simp only [Act.put, List.setIfInBounds_toArray, List.set_cons_zero, List.set_cons_succ])) | (refine calmRow_take (v := ?_) ?_ ?_ ?_; rotate_left; (focus (go_simp; done)); (focus (intro wx hSx; (try dsimp only at hSx); have hcx := HK.out wx hSx; go_simp; (first | with_reducible rfl | exact ⟨rfl, hSx⟩ | (refine (HSC.out _ N (by omega) (by omega)).mono ?_; rintro e w1 ⟨rfl, hF1⟩; refine ⟨?_, hSx.trans hF1⟩; with_reducible rfl) | (refine (HRM.out _ (HS0.out.same hSx)).mono ?_; rintro e w1 ⟨rfl, rfl⟩; refine ⟨?_, hSx⟩; with_reducible rfl)))); (try simp only [Act.put, List.setIfInBounds_toArray, List.set_cons_zero, List.set_cons_succ])))
      refine calmRow_nil ?_
      intro wn hFx
      try dsimp only at hFx
      go_wp2_with fail
      go_meet
      exact ⟨.inl ⟨rfl, hyes.out⟩, hFx⟩
  obtain ⟨hcase, hFx⟩ := hcut
  have hblk := (HSB.out.same hFx).blk (R.length + 0) (b := w.heap.size) (o := (Obj.cells #[.int .i64 0, .int .i64 0, .int .i64 0, .int .i64 0] 62)) (by rw [get_behind]; rfl)
  have hblh := hFx.keep HB1.out (by simp)
  have HSX := hid (HSB.out.same hFx)
  have z0 := cell_blk (i := 0) hblk rfl
  have z1 := cell_blk (i := 1) hblk rfl
  have z2 := cell_blk (i := 2) hblk rfl
  have z3 := cell_blk (i := 3) hblk rfl
  have y0 := free_blk (i := 0) hblk
  have y1 := free_blk (i := 1) hblk
  have y2 := free_blk (i := 2) hblk
  have y3 := free_blk (i := 3) hblk
  have hltz := lt_of_block hblk
  clear HK HSC hblk hFx HSB
  rcases hcase with ⟨rfl, N, rfl, c5, hok⟩ | ⟨rfl, hno⟩
  · have c0 := cell_blk (i := 0) hblh rfl
    have c1 := cell_blk (i := 1) hblh rfl
    have c2 := cell_blk (i := 2) hblh rfl
    have c3 := cell_blk (i := 3) hblh rfl
    have hfit := hok.fit
    have hhf := hok.half1
    simp only at hfit hhf
    have HY := HBY.out wc _ HSX.out f (s + l) hhf (by rw [HRR.out]; exact hfit)
    rw [show ((s + l : Nat) : Int) = (s : Int) + l from Int.natCast_add _ _] at HY
    have HY := hid HY
    have wsl : IntKind.i64.wrap ((s : Int) + l) = (s : Int) + l := IntWalk.i64_in _ (by omega)
    have HFD := hid (And.intro c5 hok)
    clear hblh HBY c5 hok z0 z1 z2 z3 y0 y1 y2 y3 hltz
    go_wp2_with fail
    refine HY.out.mono ?_
    rintro e w2 ⟨rfl, hS2⟩
    obtain ⟨t, ht⟩ : ∃ t : ByteArray, ⟨(hTake d.sec f (s + l)).toArray⟩ = t := ⟨_, rfl⟩
    rw [ht]
    obtain ⟨t1, t2, t3⟩ := hT_split d.sec f s l t (by rw [← ht, bl_mk])
    have hblh := hS2.blk (R.length + 1) (b := w.heap.size + 1) (by rw [get_behind]; rfl)
    have c0 := cell_blk (i := 0) hblh rfl
    have c1 := cell_blk (i := 1) hblh rfl
    have c2 := cell_blk (i := 2) hblh rfl
    have c3 := cell_blk (i := 3) hblh rfl
    obtain ⟨u, hu⟩ : ∃ u, t.extract s (s + l) = u := ⟨_, rfl⟩
    obtain ⟨v, hv⟩ : ∃ v, t.extract 0 s = v := ⟨_, rfl⟩
    rw [hu, hv] at t2
    rw [hv] at t1
    have HFR := hid (st_wframes hS2 u (by rw [← hu, ByteArray.size_extract]; omega))
    have g1 : (s : Int) ≤ (t.size : Int) := by omega
    have HT := hid (And.intro t1 t2)
    clear hblh hS2 HY t1 t2 ht
    go_wp2_with fail
    with_reducible refine HFR.out.mono ?_
    rintro e w3 hw3
    have hS3 : ∃ (T : List Thing) (p : Value) (ok : Bool), e = .returned (.tuple #[p, .bool ok]) ∧ St W w3 (R ++ (BlkT w.heap.size (Obj.cells #[.int .i64 0, .int .i64 0, .int .i64 0, .int .i64 0] 62) :: BlkT (w.heap.size + 1) (.cells #[.int .i64 (N : Nat), .int .i64 (f : Nat), .int .i64 (s : Nat), .int .i64 (l : Nat)] 62) :: T)) ∧
        ((∃ l' q, ok = true ∧ p = .slice q l'.length l'.length ∧ Fd d.sec a ⟨N, f, s, l⟩ v l' ∧ T = [WvT 9 1 q l'.length (strV l')]) ∨ ok = false ∧ p = .slice none 0 0 ∧ (∀ g s l, ¬ Fd d.sec a g s l) ∧ T = []) := by
      rcases hw3 with ⟨l', h1, h2, q, rfl, h3⟩ | ⟨h1, rfl, h3⟩
      · rw [List.append_assoc] at h3
        refine ⟨_, _, _, rfl, h3, .inl ⟨l', q, rfl, rfl, ⟨HBB.out.trans HFD.out.1.symm, by rw [HRR.out]; exact HFD.out.2, HT.out.1, by rw [HT.out.2, h2], h1⟩, rfl⟩⟩
      · refine ⟨[], _, _, rfl, h3, .inr ⟨rfl, rfl, fun g s' l' h => ?_, rfl⟩⟩
        have hg : (⟨N, f, s, l⟩ : WH) = g := secB_inj HFD.out.2 h.ok (by have := roomN_le d.sec.length; have := HRR.out; omega) (roomN_le _) (HFD.out.1.trans (HBB.out.symm.trans h.sec))
        subst hg
        have h4 := h.all
        have h5 : bl s' = bl v := by rw [h.snap, HT.out.1]
        rw [h5, HT.out.2] at h4
        exact h1 l' h.recs (List.append_cancel_left h4)
    clear hw3 HFR
    obtain ⟨T, p, ok, rfl, hS3, hres⟩ := hS3
    have HRES := hid hres
    have hblz := hS3.blk (R.length + 0) (b := w.heap.size) (by rw [get_behind]; rfl)
    have hblh := hS3.blk (R.length + 1) (b := w.heap.size + 1) (by rw [get_behind]; rfl)
    have HS3 := hid hS3
    have HBZ := hid hblz
    have HBH := hid hblh
    clear hres hblz hblh hS3
    go_wp2_with fail
    have c0 := cell_blk (i := 0) (blk_drew HBH.out) rfl
    have c1 := cell_blk (i := 1) (blk_drew HBH.out) rfl
    have c2 := cell_blk (i := 2) (blk_drew HBH.out) rfl
    have c3 := cell_blk (i := 3) (blk_drew HBH.out) rfl
    have z0 := cell_blk (i := 0) (blk_drew HBZ.out) rfl
    have z1 := cell_blk (i := 1) (blk_drew HBZ.out) rfl
    have z2 := cell_blk (i := 2) (blk_drew HBZ.out) rfl
    have z3 := cell_blk (i := 3) (blk_drew HBZ.out) rfl
    have y0 : w3.drew.frozen? ⟨w.heap.size, 0, none⟩ = false := free_blk (blk_drew HBZ.out)
    have y1 : w3.drew.frozen? ⟨w.heap.size, 1, none⟩ = false := free_blk (blk_drew HBZ.out)
    have y2 : w3.drew.frozen? ⟨w.heap.size, 2, none⟩ = false := free_blk (blk_drew HBZ.out)
    have y3 : w3.drew.frozen? ⟨w.heap.size, 3, none⟩ = false := free_blk (blk_drew HBZ.out)
    have mixed : Tryz.prog.follows .mixedOrders = true := by kernel_rfl
    have g2 : (s : Int) ≤ (s : Int) + l := by omega
    have k0 := cell_blk (i := 0) HBZ.out rfl
    have k1 := cell_blk (i := 1) HBZ.out rfl
    have k2 := cell_blk (i := 2) HBZ.out rfl
    have k3 := cell_blk (i := 3) HBZ.out rfl
    have j0 := free_blk (i := 0) HBZ.out
    have j1 := free_blk (i := 1) HBZ.out
    have j2 := free_blk (i := 2) HBZ.out
    have j3 := free_blk (i := 3) HBZ.out
    have l0 := cell_blk (i := 0) HBH.out rfl
    have l1 := cell_blk (i := 1) HBH.out rfl
    have l2 := cell_blk (i := 2) HBH.out rfl
    have l3 := cell_blk (i := 3) HBH.out rfl
    have hlz := lt_of_block HBZ.out
    have H4 := hid (HS3.out.blk4 (.int .i64 (N : Nat)) (.int .i64 (f : Nat)) (.int .i64 (s : Nat)) (.int .i64 (l : Nat))).drew
    go_region_o
    all_goals
      clear c0 c1 c2 c3 z0 z1 z2 z3 y0 y1 y2 y3 mixed k0 k1 k2 k3 j0 j1 j2 j3 hlz l0 l1 l2 l3
      go_wp2_with fail
      obtain ⟨wz, hwz⟩ : ∃ wz : World, ((((w3.setCell ⟨w.heap.size, 0, none⟩ (.int .i64 (N : Nat))).setCell ⟨w.heap.size, 1, none⟩ (.int .i64 (f : Nat))).setCell ⟨w.heap.size, 2, none⟩ (.int .i64 (s : Nat))).setCell ⟨w.heap.size, 3, none⟩ (.int .i64 (l : Nat))).drew = wz := ⟨_, rfl⟩
      have H5 := H4.out
      rw [hwz] at H5 ⊢
      have hbz := H5.blk (R.length + 0) (b := w.heap.size) (by rw [get_behind]; rfl)
      have x0 := cell_blk (i := 0) hbz rfl
      have x1 := cell_blk (i := 1) hbz rfl
      have x2 := cell_blk (i := 2) hbz rfl
      have x3 := cell_blk (i := 3) hbz rfl
      refine bodyPost_ret (v := .tuple #[.agg #[.int .i64 (N : Nat), .int .i64 (f : Nat), .int .i64 (s : Nat), .int .i64 (l : Nat)], .string v, p, .bool ok]) (by simp [results, Tryz.results43, go_sem, x0, x1, x2, x3, hv]) rfl ?_
      rcases HRES.out with ⟨l', q, rfl, rfl, hfd, rfl⟩ | ⟨rfl, rfl, hno, rfl⟩
      · refine .inl ⟨_, v, l', hfd, q, rfl, ?_⟩
        refine H5.sub (B := [BlkT w.heap.size (.cells #[.int .i64 (N : Nat), .int .i64 (f : Nat), .int .i64 (s : Nat), .int .i64 (l : Nat)] 62), BlkT (w.heap.size + 1) (.cells #[.int .i64 (N : Nat), .int .i64 (f : Nat), .int .i64 (s : Nat), .int .i64 (l : Nat)] 62)]) ?_
        rw [List.append_assoc]
        exact List.Perm.append_left _ (perm3 _ _ _)
      · exact .inr ⟨hno, ⟨N, f, s, l⟩, v, rfl, H5.drop⟩
  · have HNO := hid hno
    have H4 := hid (HSX.out.blk4 (.int .i64 0) (.int .i64 0) (.int .i64 0) (.int .i64 0))
    clear hno hblh
    go_wp2_with fail
    obtain ⟨wz, hwz⟩ : ∃ wz : World, ((((wc.setCell ⟨w.heap.size, 0, none⟩ (.int .i64 0)).setCell ⟨w.heap.size, 1, none⟩ (.int .i64 0)).setCell ⟨w.heap.size, 2, none⟩ (.int .i64 0)).setCell ⟨w.heap.size, 3, none⟩ (.int .i64 0)) = wz := ⟨_, rfl⟩
    have H5 := H4.out
    rw [hwz] at H5 ⊢
    have hbz := H5.blk (R.length + 0) (b := w.heap.size) (by rw [get_behind]; rfl)
    have x0 := cell_blk (i := 0) hbz rfl
    have x1 := cell_blk (i := 1) hbz rfl
    have x2 := cell_blk (i := 2) hbz rfl
    have x3 := cell_blk (i := 3) hbz rfl
    refine bodyPost_ret (v := .tuple #[.agg #[.int .i64 0, .int .i64 0, .int .i64 0, .int .i64 0], .string ⟨#[]⟩, .slice none 0 0, .bool false]) (by simp [results, Tryz.results43, go_sem, x0, x1, x2, x3]) rfl ?_
    exact .inr ⟨HNO.out, ⟨0, 0, 0, 0⟩, _, rfl, H5.drop⟩
end
end Go.Proofs.YthghnlgojmedgaaGreat
