/-
  Merged, in build order: V1.
-/
import Derived.OwnWalk
import Derived.Test.YthghnlgojmedgaaGreatM31
import Derived.Test.YthghnlgojmedgaaGreatM25
import Derived.Test.YthghnlgojmedgaaGreatM30
/-
  The document's log: Half, Cut. Rows of texts that are read.
-/
namespace Go.Proofs.YthghnlgojmedgaaGreat
open Go.RowKit
set_option linter.unusedVariables false
set_option linter.unusedSimpArgs false

abbrev TxT (a : Option Addr) (c : Nat) (l : List ByteArray) : Thing := InT 1 a l.length c (strV l)
section
variable {W : Base} {w : World} {R : List Thing}
theorem St.rowStr (H : St W w R) (i : Nat) {v : Value} {l : List ByteArray} (hi : R[i]? = some (RowT 9 1 v l.length (l.map Value.string))) : ∃ a c, v = .slice a l.length c ∧ In w 1 a l.length c (strV l) := by
  have h := H.row i hi
  rcases owns_one h with ⟨rfl, hn, _⟩ | ⟨g, cap, rfl, hle, hmx⟩
  · refine ⟨none, 0, by rw [hn], by rw [hn]; exact Nat.le_refl _, by decide, fun h0 => by omega, fun b off e => by cases e⟩
  · exact ⟨_, cap, rfl, owns_in h (strV l) (fun j hj => map_str l j hj)⟩
theorem St.empty (H : St W w R) : St W (w.alloc (.cells #[] 9)) (R ++ [RowT 9 1 (.slice (some ⟨w.heap.size, 0, none⟩) 0 0) 0 []]) :=
  H.new (A := Row1 9 1 (.slice (some ⟨w.heap.size, 0, none⟩) 0 0) 0 []) (F := [w.heap.size]) ((Fr.refl _ _).alloc _) inferInstance
    ⟨rfl, by simp, Or.inr ⟨_, _, #[], rfl, Nat.zero_le _, blk_alloc_at _ _ _ rfl, Nat.le_refl _, by decide, by simp, by simp⟩⟩ (by simp)
theorem St.weakAt (H : St W w R) (i : Nat) {A A' : Thing} (hi : R[i]? = some A) (hL : Loc A') (h : ∀ F G, A w F G → A' w F G) : St W w (R.set i A') := by
  refine H.weaken (by simp) (fun j B B' hB hB' => ?_)
  by_cases hj : i = j
  · subst hj
    rw [hi] at hB
    rw [List.getElem?_set_self (lt_of_get hi)] at hB'
    cases hB; cases hB'
    exact .inr ⟨hL, h⟩
  · rw [List.getElem?_set_ne hj, hB] at hB'
    exact .inl (Option.some.inj hB').symm
theorem St.wvTx (H : St W w R) (i : Nat) {a : Option Addr} {l : List ByteArray} (hl : l.length ≤ 65536) (hi : R[i]? = some (WvT 9 1 a l.length (strV l))) : St W w (R.set i (TxT a l.length l)) :=
  H.weakAt i hi (inferInstance : Loc (own (In1 _ _ _ _ _))) (fun F G ⟨h1, h2, h3⟩ => ⟨h1, ⟨h2, h3.toIn (Nat.le_refl _) (by unfold maxLen; omega), fun p hp => by
    rcases h3 with ⟨rfl, _⟩ | ⟨g, cur, rfl, hh, _⟩
    · cases hp
    · cases hp; exact lt_of_block hh⟩⟩)
theorem St.rowTx (H : St W w R) (i : Nat) {v : Value} {l : List ByteArray} (hi : R[i]? = some (RowT 9 1 v l.length (l.map Value.string))) : ∃ a c, v = .slice a l.length c ∧ St W w (R.set i (TxT a c l)) := by
  obtain ⟨a, c, rfl, hin⟩ := H.rowStr i hi
  refine ⟨a, c, rfl, H.weakAt i hi (inferInstance : Loc (own (In1 _ _ _ _ _))) (fun F G ⟨h1, h2, h3⟩ => ⟨h1, ⟨h2.trans ?_, ?_, fun p hp => ?_⟩⟩)⟩
  · rcases owns_one h3 with ⟨e, _⟩ | ⟨g, cap, e, _⟩
    · simp only [Value.slice.injEq] at e; rw [e.1]; rfl
    · simp only [Value.slice.injEq] at e; rw [e.1]; rfl
  · rcases owns_one h3 with ⟨e, hn, _⟩ | ⟨g, cap, e, hle, hmx⟩
    · simp only [Value.slice.injEq] at e
      obtain ⟨rfl, _, rfl⟩ := e
      exact hin
    · exact hin
  · rcases owns_one h3 with ⟨e, hn, _⟩ | ⟨g, cap, e, hle, hmx⟩
    · simp only [Value.slice.injEq] at e; rw [e.1] at hp; cases hp
    · simp only [Value.slice.injEq] at e
      refine owns_lt h3 _ ?_
      rw [hp]
      rw [hp] at e
      have := Option.some.inj e.1
      subst this
      simp [Value.ownBlock]


set_option maxHeartbeats 800000 in
theorem ref_half (w : World) (a : Option Addr) (c : Nat) (ss : List ByteArray) (hin : In w 1 a ss.length c (strV ss)) (hf : roomN ss.length ≠ 0) (hsz : ∀ i, i < ss.length → (sAt ss i).size = 128) (half : Nat) (hh : half ≤ 1) :
    Calls Tryz.prog 69 #[.slice a ss.length c, .int .i64 half] w fun e w' => e = .returned (.string ⟨(hTake ss half (roomN ss.length)).toArray⟩) ∧ Fr [] w w' := by
  obtain ⟨k1, k2, k3, k4⟩ := roomN_ok hf
  obtain ⟨b, off, rfl⟩ := hin.sm (by omega)
  obtain ⟨m, hm⟩ : ∃ m, ss.length / 2 - 1 = m := ⟨_, rfl⟩
  rw [hm] at k4
  rw [k4]
  have hTs := fun q h => hTake_sector ss half q h
  rw [hm] at hTs
  obtain ⟨n, hn⟩ : ∃ n, ss.length = n := ⟨_, rfl⟩
  rw [hn] at hin hsz k1 k2 k3 hm ⊢
  obtain ⟨p, hp⟩ : ∃ p, 2 + half * m = p := ⟨_, rfl⟩
  rw [hp] at hTs
  have hp1 : p + m ≤ n ∧ p ≤ 2 + m ∧ m ≤ 512 ∧ 1 ≤ m := by rcases (show half = 0 ∨ half = 1 by omega) with rfl | rfl <;> omega
  have e0 : IntKind.i64.wrap ((n : Int) / 2) = (n : Int) / 2 := IntWalk.i64_in _ (by omega)
  have e1 : IntKind.i64.wrap ((n : Int) / 2 - 1) = (m : Int) := by rw [IntWalk.i64_in _ (by omega)]; omega
  have e2 : IntKind.i64.wrap ((half : Int) * m) = (half : Int) * m := IntWalk.i64_in _ (by rcases (show half = 0 ∨ half = 1 by omega) with rfl | rfl <;> omega)
  have e3' : IntKind.i64.wrap (2 + (half : Int) * m) = (p : Int) := by rw [show (2 : Int) + (half : Int) * m = (p : Int) by rw [← hp]; push_cast; rfl]; exact IntWalk.i64_in _ (by omega)
  obtain ⟨i0, hi, hz0, hz1, hz2⟩ := info_parts info_u8
  have HI := hid (And.intro hi (And.intro hz0 (And.intro hz1 hz2)))
  have HIN := hid hin
  have HT := hid (And.intro hTs hsz)
  have HP := hid (And.intro hp1 (And.intro k3 hn))
  clear hi hz0 hz1 hz2 hin hTs hsz hp1 k1 k2 k3 k4 hm hp hn hf hh
  go_enter Tryz.func69, Tryz.ntmps69
  go_wp2_with fail
  have ho0 : (w.alloc (.cells #[] 5)).ownsRow 0 5 1 (.slice (some ⟨w.heap.size, 0, none⟩) 0 0) 0 (Lib.byteCells []) := ⟨rfl, Or.inr ⟨_, _, #[], rfl, Nat.zero_le _, blk_alloc_at _ _ _ rfl, Nat.le_refl _, by decide, by simp, by simp [Lib.byteCells]⟩⟩
  have HO0 := hid ho0
  have HF0 := hid ((Fr.refl [] w).alloc (.cells #[] 5))
  clear ho0 e0 e1
  go_loopw [6, 7] (fun bv iv wr => ∃ q : Nat, q ≤ m ∧ iv = .int .i64 q ∧ Hid (wr.ownsRow 0 5 1 bv (128 * q) (Lib.byteCells (hTake ss half (128 * q))) ∧ Fr [] w wr ∧ ∀ x, x ∈ bv.ownBlock.toList → w.heap.size ≤ x)) (fun _ iv _ => m - (intOf iv).toNat)
  case atStart => exact ⟨0, Nat.zero_le _, rfl, hid ⟨HO0.out, HF0.out, by simp [Value.ownBlock]⟩⟩
  case round =>
    clear HO0 HF0
    obtain ⟨q, hq, rfl, hO⟩ := hrel
    by_cases hlt : q < m
    · obtain ⟨u, hu⟩ : ∃ u, p + q = u := ⟨_, rfl⟩
      have hun : u < n := by have := HP.out.1.1; omega
      have w1 : IntKind.i64.wrap ((p : Int) + q) = (u : Int) := by rw [show (p : Int) + q = (u : Int) by omega]; exact IntWalk.i64_in _ (by have := HP.out.2.1; omega)
      have c1 := (HIN.out.fr0 hO.out.2.1).cell b off rfl u (by omega)
      have hsz := HT.out.2 u hun
      have hT := HT.out.1 q (by rw [hu]; exact hsz)
      rw [hu] at hT
      obtain ⟨sv, hsv⟩ : ∃ sv, sAt ss u = sv := ⟨_, rfl⟩
      rw [show strV ss u = .string sv by rw [← hsv]; rfl] at c1
      rw [hsv] at hT hsz
      have HQ := hid (And.intro hT (And.intro hsz (And.intro hq hlt)))
      have hltI : (q : Int) < m := by omega
      have hunI : (u : Int) < n := by omega
      have w2 : IntKind.i64.wrap ((q : Int) + 1) = (q : Int) + 1 := IntWalk.i64_in _ (by have := HP.out.1.2.2.1; omega)
      obtain ⟨ao1, n1, cap1, rfl⟩ : ∃ ao n' cap, u6 = .slice ao n' cap := by
        rcases hO.out.1.2 with ⟨hv, _⟩ | ⟨g, cap, cur, hv, _⟩
        · exact ⟨_, _, _, hv⟩
        · exact ⟨_, _, _, hv⟩
      clear hT hsz hq hlt hu hun hsv
      go_wp2_with (at_builtin; refine wpList_append_str_blk rfl _ _ 71 9 rfl 0 5 i0 Tryz.underlying71 Tryz.underlying9 HI.out.1 HI.out.2.1 HI.out.2.2.1 HI.out.2.2.2 (.slice ao1 n1 cap1) (128 * q) (Lib.byteCells (hTake ss half (128 * q))) rfl hO.out.1 sv rfl ?c3 ?c4 ?c5 ?_)
      case c3 => have := HQ.out.2.1; have := HQ.out.2.2; have := HP.out.1.2.2.1; unfold maxLen; omega
      case c4 => have := HQ.out.2.1; have := HQ.out.2.2; have := HP.out.1.2.2.1; omega
      case c5 => omega
      intro v' w9 hown' hgrow hbl
      have hF9 : Fr (Value.slice ao1 n1 cap1).ownBlock.toList wr w9 := Fr.of_grown hgrow
      have h9 : w9.ownsRow 0 5 1 v' (128 * (q + 1)) (Lib.byteCells (hTake ss half (128 * (q + 1)))) ∧ Fr [] w w9 ∧ ∀ x, x ∈ v'.ownBlock.toList → w.heap.size ≤ x := by
        refine ⟨?_, ?_, fun x hx => ?_⟩
        · rw [HQ.out.1, Lib.byteCells_append, show Lib.byteCells (bl sv) = Lib.strCells sv from (Lib.strCells_eq sv).symm, Nat.mul_add, Nat.mul_one, show 128 * q + 128 = 128 * q + sv.size by rw [HQ.out.2.1]]
          exact hown'
        · exact hO.out.2.1.step hF9 (fun x hx => .inr (hO.out.2.2 x hx))
        · rcases hbl x (by simpa using hx) with h | h
          · exact hO.out.2.2 x (by simpa using h)
          · exact Nat.le_trans hO.out.2.1.size h
      have H9 := hid h9
      clear hown' hgrow hbl hF9 h9 c1 w1 hunI
      go_wp2_with fail
      go_roundw
      case rel => exact ⟨q + 1, HQ.out.2.2.2, by go_num, H9⟩
      case measure => have := HQ.out.2.2.2; simp [intOf]; omega
    · obtain rfl : q = m := by omega
      obtain ⟨g, cap, rfl, _, _⟩ := ownsRow_shape hO.out.1 (by have := HP.out.1.2.2.2; omega)
      have hcells : ∀ j v, (Lib.byteCells (hTake ss half (128 * q)))[j]? = some v → wr.cell? ⟨g, 0 + j, none⟩ = some v := fun j v hj => by
        rw [Nat.zero_add]; exact (ownsRow_cell hO.out.1 j hj).1
      have HC := hid hcells
      have HF := hid hO.out.2.1
      clear hcells hlt hq hO
      go_wp2_with (refine wpList_text' rfl 71 9 (.tmp 29) rfl 5 Tryz.underlying71 Tryz.underlying5 Tryz.underlying9 g 0 (128 * q) cap (hTake ss half (128 * q)) (hTake_len _ _ _) rfl HC.out ?_)
      go_wp2_with fail
      go_ret
      exact ⟨by rw [Nat.mul_comm q 128]; rfl, HF.out⟩

/-- What Cut comes to. -/
def CtTo (W : Base) (R : List Thing) (b : ByteArray) (e : Ending) (w' : World) : Prop :=
  (∃ l, okRecs l ∧ bl b = frs l ∧ ∃ a c, e = .returned (.tuple #[.slice a l.length c, .bool true]) ∧ St W w' (R ++ [TxT a c l])) ∨
  ((∀ m, okRecs m → bl b ≠ frs m) ∧ e = .returned (.tuple #[.slice none 0 0, .bool false]) ∧ St W w' R)
/-- What was cut so far. -/
structure CtI (b s : ByteArray) (l : List ByteArray) : Prop where
  ok : okRecs l
  eq : bl b = frs l ++ bl s
  le : s.size ≤ b.size
theorem FrI.zero (s : ByteArray) : FrI s 0 [] := ⟨fun t ht => (by cases ht), rfl, Nat.zero_le _⟩
theorem CtI.none {b s : ByteArray} {l : List ByteArray} (h : CtI b s l) (hb : b.size < 18446744073709551616) (hn : ∀ m, okRecs m → bl s ≠ frs m) : ∀ m, okRecs m → bl b ≠ frs m := by
  intro m hm e
  obtain ⟨r, hr, hx⟩ := frs_pre l m _ h.ok hm (by rw [← e, bl_len]; exact hb) (h.eq.symm.trans e)
  exact hn r (fun t ht => hm t (by rw [hr]; simp [ht])) hx
theorem CtI.next {b s t : ByteArray} {l : List ByteArray} {q : Nat} (h : CtI b s l) (hs : s.size < 18446744073709551616) (hr : rdText s 0 2048 = .ok (t, q)) (ht : ¬ t.size = 0) : CtI b (s.extract q s.size) (l ++ [t]) := by
  obtain ⟨h1, h2⟩ := (rdText_iff (by decide) hs).1 hr
  refine ⟨okRecs_snoc h.ok ⟨by omega, by omega⟩, ?_, ?_⟩
  · have h3 := h1.eq
    rw [List.drop_zero] at h3
    rw [frs_snoc, List.append_assoc, h.eq, h3, extract_bl, List.take_of_length_le (by rw [bl_len]; exact Nat.le_refl _)]
  · rw [ByteArray.size_extract]; have := h.le; omega
set_option maxHeartbeats 1600000 in
set_option maxRecDepth 100000 in
theorem st_rcut (H : St W w R) (b : ByteArray) (hb : b.size ≤ 65536) :
    Calls Tryz.prog 70 #[.string b] w (CtTo W R b) := by
  have HE := hid H.empty
  have HB := hid (show b.size < 18446744073709551616 ∧ b.size ≤ 65536 by omega)
  clear H hb
  go_enter Tryz.func70, Tryz.ntmps70
  go_wp2_with fail
  go_loopw [0, 4] (fun sv lv wr => ∃ (s : ByteArray) (l : List ByteArray), sv = .string s ∧ Hid (CtI b s l) ∧ l.length ≤ b.size - s.size ∧ St W wr (R ++ [RowT 9 1 lv l.length (l.map Value.string)])) (fun sv _ _ => (match sv with | .string s => s.size | _ => 0))
  case atStart => exact ⟨b, [], rfl, hid ⟨fun t ht => (by cases ht), rfl, Nat.le_refl _⟩, Nat.zero_le _, HE.out⟩
  case round =>
    clear HE
    obtain ⟨s, l, rfl, hI, hll, H⟩ := hrel
    obtain ⟨a0, c0, rfl, _⟩ := H.rowStr (R.length + 0) (v := u4) (l := l) (by rw [get_behind]; rfl)
    have hs64 : s.size < 18446744073709551616 := by have := hI.out.le; have := HB.out.1; omega
    have HS := hid (And.intro hs64 hll)
    by_cases hpos : 0 < s.size
    · have hpd : decide (0 < s.size) = true := decide_eq_true hpos
      have hpI : decide ((0 : Int) < (s.size : Int)) = true := decide_eq_true (by omega)
      have HBX := hid (show St W (wr.alloc (.cells #[.string s, .int .i64 0, .int .i64 0, .int .i64 0] 131)) ((R ++ [RowT 9 1 (.slice a0 l.length c0) l.length (l.map Value.string)]) ++ [RrT wr.heap.size ⟨s, 0, 0⟩ 0]) from H.alloc _)
      have HPOS := hid hpos
      obtain ⟨X, hX⟩ : ∃ X, rdText s 0 2048 = X := ⟨_, rfl⟩
      have hT := st_rText HBX.out ((R ++ [RowT 9 1 (.slice a0 l.length c0) l.length (l.map Value.string)]).length + 0) (r := wr.heap.size) (s := ⟨s, 0, 0⟩) (z := 0) (by rw [get_behind]; rfl) ⟨Nat.zero_le _, by show s.size ≤ _; have := hI.out.le; have := HB.out.2; omega⟩ 2048 (by decide)
      dsimp only at hT
      rw [show ((2048 : Nat) : Int) = 2048 from rfl, hX] at hT
      have HT := hid hT
      have HX := hid hX
      clear H hll hs64 hpos hT hX
      go_wp2_with fail
      rcases X with c | ⟨t, q⟩
      · have hc := hid (rdText_err HX.out)
        have e2 : (c != 0) = true := by rw [bne_iff_ne]; exact hc.out
        simp only [RS.got, RS.face, if_pos] at HT
        refine HT.out.mono ?_
        rintro e w3 ⟨rfl, z', H⟩
        rw [List.set_append_right _ _ (by omega), Nat.add_sub_cancel_left] at H
        have c2 := (H.rr ((R ++ [RowT 9 1 (.slice a0 l.length c0) l.length (l.map Value.string)]).length + 0) (r := wr.heap.size) (s := ⟨s, 0, c⟩) (z := z') (by rw [get_behind]; rfl)).2.2.1
        have HE := hid H.drop.drop
        clear H HT
        go_wp2_with fail
        go_ret2
        exact .inr ⟨hI.out.none HB.out.1 ((FrI.zero s).none1 HS.out.1 HPOS.out HX.out), rfl, HE.out⟩
      · simp only [RS.got, RS.face, if_pos] at HT
        refine HT.out.mono ?_
        rintro e w3 ⟨rfl, z', H⟩
        rw [List.set_append_right _ _ (by omega), Nat.add_sub_cancel_left] at H
        obtain ⟨_, c1, c2, _⟩ := H.rr ((R ++ [RowT 9 1 (.slice a0 l.length c0) l.length (l.map Value.string)]).length + 0) (r := wr.heap.size) (s := ⟨s, q, 0⟩) (z := z') (by rw [get_behind]; rfl)
        by_cases ht : t.size = 0
        · have hno := hid ((FrI.zero s).none2 HS.out.1 HPOS.out HX.out ht)
          have HE := hid H.drop.drop
          have hlen : t.size = 0 := ht
          clear H HT ht
          go_wp2_with fail
          go_ret2
          exact .inr ⟨hI.out.none HB.out.1 hno.out, rfl, HE.out⟩
        · have hnx := hid (hI.out.next HS.out.1 HX.out ht)
          have hpq := ((rdText_iff (by decide) HS.out.1).1 HX.out).1
          have hpq1 : 1 ≤ q := by have := hpq.at_; rw [bl_len] at this; have := tf_pos t; omega
          have hpq2 := hpq.le
          have hlt1 : decide (t.size < 1) = false := decide_eq_false (by omega)
          have hlt2 : decide ((t.size : Int) < 1) = false := decide_eq_false (by omega)
          have hqI : (q : Int) ≤ (s.size : Int) := by omega
          obtain ⟨i0, hi0, hz0, hz1, hz2⟩ := info_parts info_string
          have HI := hid (And.intro hi0 (And.intro hz0 (And.intro hz1 hz2)))
          have hb1 := H.drop
          have HAP := hid ((hb1.alloc_ (.cells #[.string t] 9)).append (R.length + 0) (e := 9) (size := 1) (n := l.length) (v := .slice a0 l.length c0) (xs := l.map Value.string) (by rw [get_behind]; rfl))
          have HBK := hid (H.alloc_ (.cells #[.string t] 9))
          have HQ := hid (And.intro hpq1 hpq2)
          have hbk : w3.heap[wr.heap.size]? = some (.cells #[.string s, .int .i64 (q : Nat), .int .i64 0, .int .i64 z'] 131 (0, 0)) := H.blk ((R ++ [RowT 9 1 (.slice a0 l.length c0) l.length (l.map Value.string)]).length + 0) (by rw [get_behind]; rfl)
          have HBB := hid hbk
          clear ht hpq hi0 hz0 hz1 hz2 H hb1 HT hpq1 hpq2 hbk
          go_wp2_with (at_builtin; refine wpList_append_blk rfl (.tmp 26) (.tmp 28) 34 rfl 9 i0 (.string ByteArray.empty) 1 16 Tryz.underlying34 HI.out.1 HI.out.2.1 HI.out.2.2.1 HI.out.2.2.2 rfl (by decide) (.slice a0 l.length c0) l.length (l.map Value.string) rfl HAP.out.1 ⟨w3.heap.size, 0, none⟩ 1 1 [.string t] rfl rfl (news_alloc w3 [.string t] 9) (by intro u hu; simp at hu; subst hu; rfl) (by have := HS.out.2; have := HB.out.2; unfold maxLen; omega) (by have := HS.out.2; have := HB.out.2; omega) ?_)
          intro v' w9 ho hF hb hn
          have hne : wr.heap.size ∉ (Value.slice a0 l.length c0).ownBlock.toList := ownsRow_ne HAP.out.1 (blk_alloc_lt _ HBB.out) (by decide)
          have hbk9 : w9.heap[wr.heap.size]? = some (.cells #[.string s, .int .i64 (q : Nat), .int .i64 0, .int .i64 z'] 131 (0, 0)) := hF.keep (blk_alloc_lt _ HBB.out) (by simpa using hne)
          have d1 := cell_blk (i := 1) hbk9 rfl
          have H9 := HAP.out.2 v' w9 (l.length + 1) (l.map Value.string ++ [.string t]) ho (by simpa using hF) (by simpa using hb)
          rw [List.set_append_right _ _ (by omega), Nat.add_sub_cancel_left] at H9
          have H9 := hid H9
          clear ho hF hb hn HAP hbk9 hne c1 c2 hlt1 hlt2
          go_wp2_with fail
          refine ⟨⟨s.extract q s.size, l ++ [t], rfl, hnx, ?_, ?_⟩, ?_⟩
          · have := HS.out.2; have := HQ.out; have := hI.out.le; rw [List.length_append, ByteArray.size_extract, List.length_singleton]; omega
          · rw [List.length_append, List.map_append]; exact H9.out
          · have := HQ.out; have := HPOS.out
            show (s.extract q s.size).size < s.size
            rw [ByteArray.size_extract]; omega
    · have hpd : decide (0 < s.size) = false := decide_eq_false hpos
      have hz : s.size = 0 := by omega
      have HZ := hid (show bl b = frs l by rw [hI.out.eq, List.length_eq_zero_iff.1 (show (bl s).length = 0 by rw [bl_len]; exact hz), List.append_nil])
      obtain ⟨a1, c1, e1, H1⟩ := H.rowTx (R.length + 0) (v := .slice a0 l.length c0) (l := l) (by rw [get_behind]; rfl)
      simp only [Value.slice.injEq, true_and] at e1
      obtain ⟨rfl, rfl⟩ := e1
      rw [List.set_append_right _ _ (by omega), Nat.add_sub_cancel_left] at H1
      have H1 := hid H1
      clear H hpos hll hs64
      go_wp2_with fail
      go_ret2
      exact .inl ⟨l, hI.out.ok, HZ.out, _, _, rfl, H1.out⟩
end
end Go.Proofs.YthghnlgojmedgaaGreat
