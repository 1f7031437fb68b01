/-
  RecordJoins: the walk, where the rows are short enough.
-/
import Derived.Test.YtdobbmlaokolmaaRM
import Derived.Test.YtdobbmlaokolmaaApp
import Derived.Test.YtdobbmlaokolmaaRA
import Derived.Test.YtdobbmlaokolmaaChArg
import Derived.Test.YtdobbmlaokolmaaRD
import Derived.Deep.RegionHeld
namespace Go.Proofs.Ytdobbmlaokolmaa
open Go.RowKit
set_option linter.unusedVariables false
set_option linter.unusedSimpArgs false

theorem enc_head {l : List CV} {b : ByteArray} (h : encode l = (b, 0)) : 0 < b.size ∧ (bl b).drop 1 = l.flatMap CV.put := by
  obtain ⟨h1, h2, h3, h4⟩ := encode_iff.1 h
  have e : bl b = l.length.toUInt8 :: l.flatMap CV.put := by rw [h3, rowB, nf_small _ (by omega)]; rfl
  exact ⟨by rw [← bl_len, e]; simp, by rw [e]; rfl⟩
theorem enc_manyJ {l : List CV} (hok : ∀ c, c ∈ l → c.check = 0) (h : ∀ b, encode l ≠ (b, 0)) : encode l = (⟨#[]⟩, 82) := by
  unfold encode at h ⊢
  by_cases hn : inB l.length 1 16 = true
  · rw [if_pos hn] at h ⊢
    have he := (encGo_ok (l := l) (nf l.length).data.toList _).2 ⟨hok, rfl⟩
    rw [he] at h ⊢
    dsimp only at h ⊢
    split
    · rfl
    · next hs => rw [if_neg hs] at h; exact absurd rfl (h _)
  · rw [if_neg hn]
theorem enc_join {l r : List CV} {A B C : ByteArray} {E F G : Int} (h1 : encode l = (A, E)) (h2 : encode r = (B, F)) (h3 : encode (l ++ r) = (C, G)) :
    ((E ≠ 0 ∨ F ≠ 0) → G ≠ 0 ∨ l.length = 0 ∨ r.length = 0) ∧
    (E = 0 → F = 0 → 0 < A.size ∧ 0 < B.size ∧ ((16 < l.length + r.length ∨ 2048 < A.size + B.size - 1) → C = ⟨#[]⟩ ∧ G = 82) ∧
      (¬ (16 < l.length + r.length ∨ 2048 < A.size + B.size - 1) → bl C = (l.length + r.length).toUInt8 :: ((bl A).drop 1 ++ (bl B).drop 1) ∧ G = 0)) := by
  constructor
  · intro hEF
    by_cases hG : G = 0
    · subst hG
      obtain ⟨g1, g2, g3, g4⟩ := encode_iff.1 h3
      rw [List.length_append] at g1
      right
      by_cases hl : l.length = 0
      · exact .inl hl
      by_cases hr : r.length = 0
      · exact .inr hr
      exfalso
      have hs : ∀ x : List CV, (∀ c, c ∈ x → c ∈ l ++ r) → 1 ≤ x.length → x.length ≤ 16 → (rowB x).length ≤ (rowB (l ++ r)).length → (encode x).2 = 0 := by
        intro x hx hx1 hx2 hx3
        have : encode x = (⟨(rowB x).toArray⟩, 0) := encode_iff.2 ⟨⟨hx1, hx2⟩, fun c hc => g2 c (hx c hc), by simp [bl], by
          have : (rowB x).length ≤ C.size := by rw [← bl_len C, g3]; exact hx3
          have e : (ByteArray.mk (rowB x).toArray).size = (rowB x).length := by rw [← bl_len]; simp [bl]
          omega⟩
        rw [this]
      have hrow : ∀ x : List CV, x.length ≤ 16 → (rowB x).length = 1 + (x.flatMap CV.put).length := by
        intro x hx
        rw [rowB, nf_small _ (by omega), List.length_append]
        simp [bl]
      have e3 := hrow (l ++ r) (by rw [List.length_append]; omega)
      rw [List.flatMap_append, List.length_append] at e3
      have e1 := hs l (fun c hc => List.mem_append_left _ hc) (by omega) (by omega) (by rw [hrow l (by omega)]; omega)
      have e2 := hs r (fun c hc => List.mem_append_right _ hc) (by omega) (by omega) (by rw [hrow r (by omega)]; omega)
      rw [h1] at e1
      rw [h2] at e2
      rcases hEF with h | h
      · exact h e1
      · exact h e2
    · exact .inl hG
  · rintro rfl rfl
    obtain ⟨a1, a2⟩ := enc_head h1
    obtain ⟨b1, b2⟩ := enc_head h2
    have hA := encode_iff.1 h1
    have hB := encode_iff.1 h2
    have hok : ∀ c, c ∈ l ++ r → c.check = 0 := by
      intro c hc
      rcases List.mem_append.1 hc with h | h
      · exact hA.2.1 c h
      · exact hB.2.1 c h
    have eA : A.size = 1 + (l.flatMap CV.put).length := by rw [← a2, List.length_drop, bl_len]; omega
    have eB : B.size = 1 + (r.flatMap CV.put).length := by rw [← b2, List.length_drop, bl_len]; omega
    refine ⟨a1, b1, fun h => ?_, fun h => ?_⟩
    · have := enc_manyJ hok (fun b hb => by
        obtain ⟨g1, g2, g3, g4⟩ := encode_iff.1 hb
        have e : bl b = (l ++ r).length.toUInt8 :: (l ++ r).flatMap CV.put := by rw [g3, rowB, nf_small _ (by omega)]; rfl
        have e2 := congrArg List.length e
        rw [bl_len, List.flatMap_append, List.length_cons, List.length_append] at e2
        rw [List.length_append] at g1
        omega)
      rw [h3] at this
      exact Prod.mk.inj this
    · have e : rowB (l ++ r) = (l.length + r.length).toUInt8 :: ((bl A).drop 1 ++ (bl B).drop 1) := by
        rw [rowB, nf_small _ (by rw [List.length_append]; omega), a2, b2, List.flatMap_append, List.length_append]; rfl
      have := (encode_iff (l := l ++ r) (b := ⟨(rowB (l ++ r)).toArray⟩)).2 ⟨by rw [List.length_append]; omega, hok, by simp [bl], by
        have e4 : (ByteArray.mk (rowB (l ++ r)).toArray).size = (rowB (l ++ r)).length := by rw [← bl_len]; simp [bl]
        rw [e4, e, List.length_cons, List.length_append, a2, b2]
        omega⟩
      rw [h3] at this
      obtain ⟨rfl, rfl⟩ := Prod.mk.inj this
      exact ⟨by rw [← e]; simp [bl], rfl⟩

theorem join_in {w w' : World} {a b : Option Addr} {n m ca cb g c : Nat} {l r : List (CV × TS)} (ha : ChIn w a n ca l) (hb : ChIn w b m cb r) (hF : Fr [] w w')
    (ho : w'.ownsRow 0 27 10 (.slice (some ⟨g, 0, none⟩) (n + m) c) (n + m) ((List.range (n * 10)).map (cL.at_ l) ++ (List.range (m * 10)).map (cL.at_ r))) : ChIn w' (some ⟨g, 0, none⟩) (n + m) c (l ++ r) := by
  have e1 : (List.range (n * 10)).map (cL.at_ l) = cL.cells l := by rw [← ha.len]; exact cL.range l
  have e2 : (List.range (m * 10)).map (cL.at_ r) = cL.cells r := by rw [← hb.len]; exact cL.range r
  have e3 : cL.cells l ++ cL.cells r = cL.cells (l ++ r) := by simp [Lay.cells]
  have hl : (l ++ r).length = n + m := by rw [List.length_append, ha.len, hb.len]
  rw [e1, e2, e3] at ho
  refine ⟨ownsRow_in ho (cL.at_ (l ++ r)) (fun j hj => cL.get _ j (by rw [hl]; exact hj)), hl, fun x hx => ?_⟩
  rcases List.mem_append.1 hx with h | h
  · exact ⟨(ha.one x h).1.fr0 hF, (ha.one x h).2⟩
  · exact ⟨(hb.one x h).1.fr0 hF, (hb.one x h).2⟩

theorem one_text (wx : World) {n m : Nat} (h : n + m ≤ 16) : (convert 43 9 (.slice (some ⟨wx.heap.size, 0, none⟩) 1 1)).run Try.prog (wx.alloc (.cells #[.int .u8 (IntKind.u8.wrap ((n : Int) + m))] 5)).drew = .ok (.string ⟨#[(n + m).toUInt8]⟩) (wx.alloc (.cells #[.int .u8 (IntKind.u8.wrap ((n : Int) + m))] 5)).drew := by
  have e1 : IntKind.u8.wrap ((n : Int) + m) = ((n + m : Nat) : Int) := by rw [IntWalk.u8_in _ (by omega)]; omega
  rw [e1]
  refine run_text' (P := Try.prog) _ 43 9 5 wx.heap.size 0 1 [(n + m).toUInt8] Try.underlying43 Try.underlying5 Try.underlying9 (fun j v hv => ?_)
  rw [Nat.zero_add]
  refine cell_blk (f := (0, 0)) (blk_drew (blk_alloc_at wx _ _ rfl)) ?_
  rcases j with _ | j
  · simp [Lib.byteCells] at hv ⊢
    rw [← hv]
    congr 1
    omega
  · simp [Lib.byteCells] at hv
set_option maxHeartbeats 8000000 in
set_option maxRecDepth 100000 in
theorem join_ok (w : World) (a : Option Addr) (n ca : Nat) (l : List (CV × TS)) (ha : ChIn w a n ca l) (b : Option Addr) (m cb : Nat) (r : List (CV × TS)) (hb : ChIn w b m cb r) (hnm : n + m ≤ 1048576) (hE0 : (encode (l.map (·.1))).2 = 0) (hF0 : (encode (r.map (·.1))).2 = 0) :
    Calls Try.prog 8 #[.slice a n ca, .slice b m cb] w fun e w' => e = .returned (.bool true) ∧ Fr [] w w' := by
  have hbb : ∀ w : World, (binOp .neq 4 (.bool true) (.bool true)).run Try.prog w = .ok (.bool false) w := fun _ => rfl
  obtain ⟨i0, hi0, hz0, hz1, hz2⟩ := info_parts info_ch
  have HI := hid (And.intro hi0 (And.intro hz0 (And.intro hz1 hz2)))
  clear hi0 hz0 hz1 hz2
  have hE := encode_walk w a n ca l ha
  have hE2 := fun w1 (hF : Fr [] w w1) => encode_walk w1 b m cb r (hb.fr0 hF)
  obtain ⟨A, E, hAE⟩ : ∃ A E, encode (l.map (·.1)) = (A, E) := ⟨_, _, rfl⟩
  obtain ⟨B, F, hBF⟩ : ∃ B F, encode (r.map (·.1)) = (B, F) := ⟨_, _, rfl⟩
  obtain ⟨C, G, hCG⟩ : ∃ C G, encode (l.map (·.1) ++ r.map (·.1)) = (C, G) := ⟨_, _, rfl⟩
  obtain ⟨J1, J2⟩ := enc_join hAE hBF hCG
  rw [hAE] at hE
  rw [hBF] at hE2
  rw [List.length_map, List.length_map, ha.len, hb.len] at J1 J2
  have hmx := hid (show n + m ≤ maxLen by unfold maxLen; omega)
  have K : ∀ (h : G ≠ 0 ∨ n = 0 ∨ m = 0), ((G == 0) = false ∧ (G != 0) = true) ∨ G = 0 ∧ n = 0 ∨ G = 0 ∧ n ≠ 0 ∧ m = 0 := by
    intro h
    by_cases hG : G = 0
    · by_cases hn : n = 0
      · exact .inr (.inl ⟨hG, hn⟩)
      · exact .inr (.inr ⟨hG, hn, by rcases h with h | h | h; exact absurd hG h; exact absurd h hn; exact h⟩)
    · have h : (G == 0) = false := by rw [beq_eq_false_iff_ne]; exact hG
      exact .inl ⟨h, by simp [bne, h]⟩
  rw [hAE] at hE0
  rw [hBF] at hF0
  obtain rfl : E = 0 := hE0
  obtain rfl : F = 0 := hF0
  have hAs := (encode_iff.1 hAE).2.2.2
  have hBs := (encode_iff.1 hBF).2.2.2
  have hE := hid hE
  have hE2 := hid hE2
  have hCG := hid hCG
  have HA := hid ha
  have HB := hid hb
  clear hAE hBF ha hb

  obtain ⟨j1, j2, j3, j4⟩ := J2 rfl rfl
  have hAn : ((A.size : Int) == 0) = false := by rw [beq_eq_false_iff_ne]; omega
  have hBn : ((B.size : Int) == 0) = false := by rw [beq_eq_false_iff_ne]; omega
  have hAe : A.toList.isEmpty = false := by
    cases he : A.toList.isEmpty
    · rfl
    · have := size0.1 he; omega
  have hBe : B.toList.isEmpty = false := by
    cases he : B.toList.isEmpty
    · rfl
    · have := size0.1 he; omega
  clear J1 J2 K
  by_cases hbig : 16 < n + m ∨ 2048 < A.size + B.size - 1
  · obtain ⟨rfl, rfl⟩ := j3 hbig
    clear j3 j4
    by_cases hnm16 : 16 < n + m
    · have hq : (16 : Int) < ((n + m : Nat) : Int) := by omega
      clear hbig j1 j2
      go_enter Try.func8, Try.ntmps8
      go_wp2_with fail
      refine hE.out.mono ?_
      rintro e w1 ⟨rfl, hF⟩
      have hF1 := hid hF
      clear hF
      go_wp2_with fail
      refine (hE2.out _ hF1.out).mono ?_
      rintro e w2 ⟨rfl, hF⟩
      have hF2 := hid (hF1.out.trans hF)
      clear hF
      go_wp2_with (at_builtin; refine wpList_copied rfl (.tmp 22) (.tmp 23) 28 rfl 27 i0 (.agg #[.int .i64 0, .int .i64 0, .int .i64 0, .int .i64 0, .int .i64 0, .int .i64 0, .int .i64 0, .int .u64 0, .string ⟨#[]⟩, .slice none 0 0]) 10 104 Try.underlying28 HI.out.1 HI.out.2.1 HI.out.2.2.1 HI.out.2.2.2 rfl (by decide) w2.heap.size rfl (blk_alloc_at _ _ _ rfl) a n ca (cL.at_ l) rfl (HA.out.row.fr0 (hF2.out.alloc (.cells #[] 27))) (fun j _ => cL.at_one _ j) (by omega) ?_)
      intro g1 c1 w3 ho hF hg
      have hF3 := hid (((hF2.out.alloc (.cells #[] 27)).step hF (by intro x hx; simp at hx; subst hx; exact .inr hF2.out.size)))
      have ho1 := hid ho
      have hg1 := hid (show w.heap.size ≤ g1 by have := hF2.out.size; rcases hg with h | h <;> (first | omega | (simp at h; omega)))
      clear ho hg hF
      go_wp2_with (at_builtin; refine wpList_append_any rfl (.tmp 24) (.tmp 25) 28 rfl 27 i0 (.agg #[.int .i64 0, .int .i64 0, .int .i64 0, .int .i64 0, .int .i64 0, .int .i64 0, .int .i64 0, .int .u64 0, .string ⟨#[]⟩, .slice none 0 0]) 10 104 Try.underlying28 HI.out.1 HI.out.2.1 HI.out.2.2.1 HI.out.2.2.2 rfl (by decide) g1 n c1 _ rfl ho1.out b m cb (cL.at_ r) rfl (HB.out.row.fr0 hF3.out) (fun j _ => cL.at_one _ j) hmx.out (by omega) ?_)
      intro g2 c2 w4 ho hF hg
      have hF4 := hid ((hF3.out.step hF (by intro x hx; simp at hx; subst hx; exact .inr hg1.out)))
      have hj := hid (join_in HA.out HB.out hF4.out ho)
      clear ho hg hF ho1 hg1
      go_wp2_with fail
      refine (encode_walk _ _ _ _ _ hj.out).mono ?_
      rintro e w5 ⟨rfl, hF⟩
      have hF5 := hid (hF4.out.trans hF)
      rw [List.map_append, hCG.out]
      clear hF hF1 hF2 hF3 hF4 hj
      go_wp2_with (go_at_call 14; refine (fixed_walk _).mono ?_; rintro e w6 ⟨rfl, hF⟩; have hF6 := hid (hF5.out.trans hF))
      go_ret
      exact ⟨rfl, hF6.out⟩
    · have hq : ¬ (16 : Int) < ((n + m : Nat) : Int) := by omega
      have hs : (2048 : Int) < (A.size : Int) + B.size - 1 := by omega
      clear hbig j1 j2 hnm16
      go_enter Try.func8, Try.ntmps8
      go_wp2_with fail
      refine hE.out.mono ?_
      rintro e w1 ⟨rfl, hF⟩
      have hF1 := hid hF
      clear hF
      go_wp2_with fail
      refine (hE2.out _ hF1.out).mono ?_
      rintro e w2 ⟨rfl, hF⟩
      have hF2 := hid (hF1.out.trans hF)
      clear hF
      go_wp2_with (at_builtin; refine wpList_copied rfl (.tmp 22) (.tmp 23) 28 rfl 27 i0 (.agg #[.int .i64 0, .int .i64 0, .int .i64 0, .int .i64 0, .int .i64 0, .int .i64 0, .int .i64 0, .int .u64 0, .string ⟨#[]⟩, .slice none 0 0]) 10 104 Try.underlying28 HI.out.1 HI.out.2.1 HI.out.2.2.1 HI.out.2.2.2 rfl (by decide) w2.heap.size rfl (blk_alloc_at _ _ _ rfl) a n ca (cL.at_ l) rfl (HA.out.row.fr0 (hF2.out.alloc (.cells #[] 27))) (fun j _ => cL.at_one _ j) (by omega) ?_)
      intro g1 c1 w3 ho hF hg
      have hF3 := hid (((hF2.out.alloc (.cells #[] 27)).step hF (by intro x hx; simp at hx; subst hx; exact .inr hF2.out.size)))
      have ho1 := hid ho
      have hg1 := hid (show w.heap.size ≤ g1 by have := hF2.out.size; rcases hg with h | h <;> (first | omega | (simp at h; omega)))
      clear ho hg hF
      go_wp2_with (at_builtin; refine wpList_append_any rfl (.tmp 24) (.tmp 25) 28 rfl 27 i0 (.agg #[.int .i64 0, .int .i64 0, .int .i64 0, .int .i64 0, .int .i64 0, .int .i64 0, .int .i64 0, .int .u64 0, .string ⟨#[]⟩, .slice none 0 0]) 10 104 Try.underlying28 HI.out.1 HI.out.2.1 HI.out.2.2.1 HI.out.2.2.2 rfl (by decide) g1 n c1 _ rfl ho1.out b m cb (cL.at_ r) rfl (HB.out.row.fr0 hF3.out) (fun j _ => cL.at_one _ j) hmx.out (by omega) ?_)
      intro g2 c2 w4 ho hF hg
      have hF4 := hid ((hF3.out.step hF (by intro x hx; simp at hx; subst hx; exact .inr hg1.out)))
      have hj := hid (join_in HA.out HB.out hF4.out ho)
      clear ho hg hF ho1 hg1
      go_wp2_with fail
      refine (encode_walk _ _ _ _ _ hj.out).mono ?_
      rintro e w5 ⟨rfl, hF⟩
      have hF5 := hid (hF4.out.trans hF)
      rw [List.map_append, hCG.out]
      clear hF hF1 hF2 hF3 hF4 hj
      go_wp2_with (go_at_call 14; refine (fixed_walk _).mono ?_; rintro e w6 ⟨rfl, hF⟩; have hF6 := hid (hF5.out.trans hF))
      go_ret
      exact ⟨rfl, hF6.out⟩
  · obtain ⟨j5, j6⟩ := j4 hbig
    subst j6
    clear j3
    have hq : ¬ (16 : Int) < ((n + m : Nat) : Int) := by omega
    have hs : ¬ (2048 : Int) < (A.size : Int) + B.size - 1 := by omega
    have hC : C = ⟨#[(n + m).toUInt8]⟩ ++ A.extract 1 A.size ++ B.extract 1 B.size := bl_inj (by
      rw [j5, bl_app, bl_app, extract_bl, extract_bl, List.take_of_length_le (by rw [bl_len]; exact Nat.le_refl _), List.take_of_length_le (by rw [bl_len]; exact Nat.le_refl _)]
      rfl)
    subst hC
    clear j4 j5
    have t1 : ¬ 9223372036854775807 < (⟨#[UInt8.ofNat n + UInt8.ofNat m]⟩ : ByteArray).size + (A.extract 1 A.size).size := by
      rw [ByteArray.size_extract]; show ¬ 9223372036854775807 < 1 + _; omega
    have t2 : ¬ 9223372036854775807 < (⟨#[UInt8.ofNat n + UInt8.ofNat m]⟩ ++ A.extract 1 A.size : ByteArray).size + (B.extract 1 B.size).size := by
      rw [ByteArray.size_append, ByteArray.size_extract, ByteArray.size_extract]; show ¬ 9223372036854775807 < 1 + _ + _; omega
    have t3 := t2
    rw [ByteArray.size_append] at t3
    have t4 : ¬ 9223372036854775807 < 1 + (A.extract 1 A.size).size := t1
    have t5 : ¬ 9223372036854775807 < 1 + (A.extract 1 A.size).size + (B.extract 1 B.size).size := t3
    have j1 := hid j1
    have j2 := hid j2
    clear hbig
    go_enter Try.func8, Try.ntmps8
    go_wp2_with fail
    refine hE.out.mono ?_
    rintro e w1 ⟨rfl, hF⟩
    have hF1 := hid hF
    clear hF
    go_wp2_with fail
    refine (hE2.out _ hF1.out).mono ?_
    rintro e w2 ⟨rfl, hF⟩
    have hF2 := hid (hF1.out.trans hF)
    clear hF
    go_wp2_with (at_builtin; refine wpList_copied rfl (.tmp 22) (.tmp 23) 28 rfl 27 i0 (.agg #[.int .i64 0, .int .i64 0, .int .i64 0, .int .i64 0, .int .i64 0, .int .i64 0, .int .i64 0, .int .u64 0, .string ⟨#[]⟩, .slice none 0 0]) 10 104 Try.underlying28 HI.out.1 HI.out.2.1 HI.out.2.2.1 HI.out.2.2.2 rfl (by decide) w2.heap.size rfl (blk_alloc_at _ _ _ rfl) a n ca (cL.at_ l) rfl (HA.out.row.fr0 (hF2.out.alloc (.cells #[] 27))) (fun j _ => cL.at_one _ j) (by omega) ?_)
    intro g1 c1 w3 ho hF hg
    have hF3 := hid (((hF2.out.alloc (.cells #[] 27)).step hF (by intro x hx; simp at hx; subst hx; exact .inr hF2.out.size)))
    have ho1 := hid ho
    have hg1 := hid (show w.heap.size ≤ g1 by have := hF2.out.size; rcases hg with h | h <;> (first | omega | (simp at h; omega)))
    clear ho hg hF
    go_wp2_with (at_builtin; refine wpList_append_any rfl (.tmp 24) (.tmp 25) 28 rfl 27 i0 (.agg #[.int .i64 0, .int .i64 0, .int .i64 0, .int .i64 0, .int .i64 0, .int .i64 0, .int .i64 0, .int .u64 0, .string ⟨#[]⟩, .slice none 0 0]) 10 104 Try.underlying28 HI.out.1 HI.out.2.1 HI.out.2.2.1 HI.out.2.2.2 rfl (by decide) g1 n c1 _ rfl ho1.out b m cb (cL.at_ r) rfl (HB.out.row.fr0 hF3.out) (fun j _ => cL.at_one _ j) hmx.out (by omega) ?_)
    intro g2 c2 w4 ho hF hg
    have hF4 := hid ((hF3.out.step hF (by intro x hx; simp at hx; subst hx; exact .inr hg1.out)))
    have hj := hid (join_in HA.out HB.out hF4.out ho)
    clear ho hg hF ho1 hg1
    go_wp2_with fail
    refine (encode_walk _ _ _ _ _ hj.out).mono ?_
    rintro e w5 ⟨rfl, hF⟩
    have hF5 := hid (hF4.out.trans hF)
    rw [List.map_append, hCG.out]
    clear hF hF1 hF2 hF3 hF4 hj
    go_wp2_with fail
    have hcv := one_text w5 (n := n) (m := m) (by omega)
    have s1 : (1 : Int) ≤ (A.size : Int) := by have := j1.out; omega
    have s2 : (1 : Int) ≤ (B.size : Int) := by have := j2.out; omega
    have hNow : True := trivial
    go_region_held (fun wx : World => True) ((first | exact hNow)) (first | (go_at_call 14; refine (fixed_walk _).mono ?_; rintro e w6 ⟨rfl, hF⟩; have hF6 := hid hF; have hNow : True := trivial))
    go_wp2_with fail
    go_ret
    exact ⟨rfl, Fr.trans (by first | exact (hF5.out.alloc _).drew | exact hF5.out.drew.alloc _ | exact (hF5.out.drew.alloc _).drew) hF6.out⟩
set_option maxHeartbeats 8000000 in
set_option maxRecDepth 100000 in
theorem join_F (w : World) (a : Option Addr) (n ca : Nat) (l : List (CV × TS)) (ha : ChIn w a n ca l) (b : Option Addr) (m cb : Nat) (r : List (CV × TS)) (hb : ChIn w b m cb r) (hnm : n + m ≤ 1048576) (hF0 : (encode (r.map (·.1))).2 ≠ 0) (hE0 : (encode (l.map (·.1))).2 = 0) :
    Calls Try.prog 8 #[.slice a n ca, .slice b m cb] w fun e w' => e = .returned (.bool true) ∧ Fr [] w w' := by
  have hbb : ∀ w : World, (binOp .neq 4 (.bool true) (.bool true)).run Try.prog w = .ok (.bool false) w := fun _ => rfl
  obtain ⟨i0, hi0, hz0, hz1, hz2⟩ := info_parts info_ch
  have HI := hid (And.intro hi0 (And.intro hz0 (And.intro hz1 hz2)))
  clear hi0 hz0 hz1 hz2
  have hE := encode_walk w a n ca l ha
  have hE2 := fun w1 (hF : Fr [] w w1) => encode_walk w1 b m cb r (hb.fr0 hF)
  obtain ⟨A, E, hAE⟩ : ∃ A E, encode (l.map (·.1)) = (A, E) := ⟨_, _, rfl⟩
  obtain ⟨B, F, hBF⟩ : ∃ B F, encode (r.map (·.1)) = (B, F) := ⟨_, _, rfl⟩
  obtain ⟨C, G, hCG⟩ : ∃ C G, encode (l.map (·.1) ++ r.map (·.1)) = (C, G) := ⟨_, _, rfl⟩
  obtain ⟨J1, J2⟩ := enc_join hAE hBF hCG
  rw [hAE] at hE
  rw [hBF] at hE2
  rw [List.length_map, List.length_map, ha.len, hb.len] at J1 J2
  have hmx := hid (show n + m ≤ maxLen by unfold maxLen; omega)
  have K : ∀ (h : G ≠ 0 ∨ n = 0 ∨ m = 0), ((G == 0) = false ∧ (G != 0) = true) ∨ G = 0 ∧ n = 0 ∨ G = 0 ∧ n ≠ 0 ∧ m = 0 := by
    intro h
    by_cases hG : G = 0
    · by_cases hn : n = 0
      · exact .inr (.inl ⟨hG, hn⟩)
      · exact .inr (.inr ⟨hG, hn, by rcases h with h | h | h; exact absurd hG h; exact absurd h hn; exact h⟩)
    · have h : (G == 0) = false := by rw [beq_eq_false_iff_ne]; exact hG
      exact .inl ⟨h, by simp [bne, h]⟩
  rw [hAE] at hE0
  rw [hBF] at hF0
  obtain rfl : E = 0 := hE0

  have hE := hid hE
  have hE2 := hid hE2
  have hCG := hid hCG
  have HA := hid ha
  have HB := hid hb
  clear hAE hBF ha hb
  have hF1' : (F == 0) = false := by rw [beq_eq_false_iff_ne]; exact hF0
  have J := K (J1 (.inr hF0))
  clear J1 J2 K
  rcases J with ⟨hG, hG2⟩ | ⟨rfl, hn0⟩ | ⟨rfl, hn0, hm0⟩
  · skip
    go_enter Try.func8, Try.ntmps8
    go_wp2_with fail
    refine hE.out.mono ?_
    rintro e w1 ⟨rfl, hF⟩
    have hF1 := hid hF
    clear hF
    go_wp2_with fail
    refine (hE2.out _ hF1.out).mono ?_
    rintro e w2 ⟨rfl, hF⟩
    have hF2 := hid (hF1.out.trans hF)
    clear hF
    go_wp2_with (at_builtin; refine wpList_copied rfl (.tmp 22) (.tmp 23) 28 rfl 27 i0 (.agg #[.int .i64 0, .int .i64 0, .int .i64 0, .int .i64 0, .int .i64 0, .int .i64 0, .int .i64 0, .int .u64 0, .string ⟨#[]⟩, .slice none 0 0]) 10 104 Try.underlying28 HI.out.1 HI.out.2.1 HI.out.2.2.1 HI.out.2.2.2 rfl (by decide) w2.heap.size rfl (blk_alloc_at _ _ _ rfl) a n ca (cL.at_ l) rfl (HA.out.row.fr0 (hF2.out.alloc (.cells #[] 27))) (fun j _ => cL.at_one _ j) (by omega) ?_)
    intro g1 c1 w3 ho hF hg
    have hF3 := hid (((hF2.out.alloc (.cells #[] 27)).step hF (by intro x hx; simp at hx; subst hx; exact .inr hF2.out.size)))
    have ho1 := hid ho
    have hg1 := hid (show w.heap.size ≤ g1 by have := hF2.out.size; rcases hg with h | h <;> (first | omega | (simp at h; omega)))
    clear ho hg hF
    go_wp2_with (at_builtin; refine wpList_append_any rfl (.tmp 24) (.tmp 25) 28 rfl 27 i0 (.agg #[.int .i64 0, .int .i64 0, .int .i64 0, .int .i64 0, .int .i64 0, .int .i64 0, .int .i64 0, .int .u64 0, .string ⟨#[]⟩, .slice none 0 0]) 10 104 Try.underlying28 HI.out.1 HI.out.2.1 HI.out.2.2.1 HI.out.2.2.2 rfl (by decide) g1 n c1 _ rfl ho1.out b m cb (cL.at_ r) rfl (HB.out.row.fr0 hF3.out) (fun j _ => cL.at_one _ j) hmx.out (by omega) ?_)
    intro g2 c2 w4 ho hF hg
    have hF4 := hid ((hF3.out.step hF (by intro x hx; simp at hx; subst hx; exact .inr hg1.out)))
    have hj := hid (join_in HA.out HB.out hF4.out ho)
    clear ho hg hF ho1 hg1
    go_wp2_with fail
    refine (encode_walk _ _ _ _ _ hj.out).mono ?_
    rintro e w5 ⟨rfl, hF⟩
    have hF5 := hid (hF4.out.trans hF)
    rw [List.map_append, hCG.out]
    clear hF hF1 hF2 hF3 hF4 hj
    go_wp2_with (go_at_call 14; refine (fixed_walk _).mono ?_; rintro e w6 ⟨rfl, hF⟩; have hF6 := hid (hF5.out.trans hF))
    go_ret
    exact ⟨rfl, hF6.out⟩
  · have hq1 := hid (show (n : Int) = 0 by omega)
    clear hn0
    go_enter Try.func8, Try.ntmps8
    go_wp2_with fail
    refine hE.out.mono ?_
    rintro e w1 ⟨rfl, hF⟩
    have hF1 := hid hF
    clear hF
    go_wp2_with fail
    refine (hE2.out _ hF1.out).mono ?_
    rintro e w2 ⟨rfl, hF⟩
    have hF2 := hid (hF1.out.trans hF)
    clear hF
    go_wp2_with (at_builtin; refine wpList_copied rfl (.tmp 22) (.tmp 23) 28 rfl 27 i0 (.agg #[.int .i64 0, .int .i64 0, .int .i64 0, .int .i64 0, .int .i64 0, .int .i64 0, .int .i64 0, .int .u64 0, .string ⟨#[]⟩, .slice none 0 0]) 10 104 Try.underlying28 HI.out.1 HI.out.2.1 HI.out.2.2.1 HI.out.2.2.2 rfl (by decide) w2.heap.size rfl (blk_alloc_at _ _ _ rfl) a n ca (cL.at_ l) rfl (HA.out.row.fr0 (hF2.out.alloc (.cells #[] 27))) (fun j _ => cL.at_one _ j) (by omega) ?_)
    intro g1 c1 w3 ho hF hg
    have hF3 := hid (((hF2.out.alloc (.cells #[] 27)).step hF (by intro x hx; simp at hx; subst hx; exact .inr hF2.out.size)))
    have ho1 := hid ho
    have hg1 := hid (show w.heap.size ≤ g1 by have := hF2.out.size; rcases hg with h | h <;> (first | omega | (simp at h; omega)))
    clear ho hg hF
    go_wp2_with (at_builtin; refine wpList_append_any rfl (.tmp 24) (.tmp 25) 28 rfl 27 i0 (.agg #[.int .i64 0, .int .i64 0, .int .i64 0, .int .i64 0, .int .i64 0, .int .i64 0, .int .i64 0, .int .u64 0, .string ⟨#[]⟩, .slice none 0 0]) 10 104 Try.underlying28 HI.out.1 HI.out.2.1 HI.out.2.2.1 HI.out.2.2.2 rfl (by decide) g1 n c1 _ rfl ho1.out b m cb (cL.at_ r) rfl (HB.out.row.fr0 hF3.out) (fun j _ => cL.at_one _ j) hmx.out (by omega) ?_)
    intro g2 c2 w4 ho hF hg
    have hF4 := hid ((hF3.out.step hF (by intro x hx; simp at hx; subst hx; exact .inr hg1.out)))
    have hj := hid (join_in HA.out HB.out hF4.out ho)
    clear ho hg hF ho1 hg1
    go_wp2_with fail
    refine (encode_walk _ _ _ _ _ hj.out).mono ?_
    rintro e w5 ⟨rfl, hF⟩
    have hF5 := hid (hF4.out.trans hF)
    rw [List.map_append, hCG.out]
    clear hF hF1 hF2 hF3 hF4 hj
    have q1 := hq1.out
    go_wp2_with (go_at_call 14; refine (fixed_walk _).mono ?_; rintro e w6 ⟨rfl, hF⟩; have hF6 := hid (hF5.out.trans hF))
    go_ret
    exact ⟨rfl, hF6.out⟩
  · have hq1 := hid (show (m : Int) = 0 by omega)
    have hn1 : ¬ (n : Int) = 0 := by omega
    have hn2 : ((n : Int) == 0) = false := by rw [beq_eq_false_iff_ne]; exact hn1
    clear hm0 hn0
    go_enter Try.func8, Try.ntmps8
    go_wp2_with fail
    refine hE.out.mono ?_
    rintro e w1 ⟨rfl, hF⟩
    have hF1 := hid hF
    clear hF
    go_wp2_with fail
    refine (hE2.out _ hF1.out).mono ?_
    rintro e w2 ⟨rfl, hF⟩
    have hF2 := hid (hF1.out.trans hF)
    clear hF
    go_wp2_with (at_builtin; refine wpList_copied rfl (.tmp 22) (.tmp 23) 28 rfl 27 i0 (.agg #[.int .i64 0, .int .i64 0, .int .i64 0, .int .i64 0, .int .i64 0, .int .i64 0, .int .i64 0, .int .u64 0, .string ⟨#[]⟩, .slice none 0 0]) 10 104 Try.underlying28 HI.out.1 HI.out.2.1 HI.out.2.2.1 HI.out.2.2.2 rfl (by decide) w2.heap.size rfl (blk_alloc_at _ _ _ rfl) a n ca (cL.at_ l) rfl (HA.out.row.fr0 (hF2.out.alloc (.cells #[] 27))) (fun j _ => cL.at_one _ j) (by omega) ?_)
    intro g1 c1 w3 ho hF hg
    have hF3 := hid (((hF2.out.alloc (.cells #[] 27)).step hF (by intro x hx; simp at hx; subst hx; exact .inr hF2.out.size)))
    have ho1 := hid ho
    have hg1 := hid (show w.heap.size ≤ g1 by have := hF2.out.size; rcases hg with h | h <;> (first | omega | (simp at h; omega)))
    clear ho hg hF
    go_wp2_with (at_builtin; refine wpList_append_any rfl (.tmp 24) (.tmp 25) 28 rfl 27 i0 (.agg #[.int .i64 0, .int .i64 0, .int .i64 0, .int .i64 0, .int .i64 0, .int .i64 0, .int .i64 0, .int .u64 0, .string ⟨#[]⟩, .slice none 0 0]) 10 104 Try.underlying28 HI.out.1 HI.out.2.1 HI.out.2.2.1 HI.out.2.2.2 rfl (by decide) g1 n c1 _ rfl ho1.out b m cb (cL.at_ r) rfl (HB.out.row.fr0 hF3.out) (fun j _ => cL.at_one _ j) hmx.out (by omega) ?_)
    intro g2 c2 w4 ho hF hg
    have hF4 := hid ((hF3.out.step hF (by intro x hx; simp at hx; subst hx; exact .inr hg1.out)))
    have hj := hid (join_in HA.out HB.out hF4.out ho)
    clear ho hg hF ho1 hg1
    go_wp2_with fail
    refine (encode_walk _ _ _ _ _ hj.out).mono ?_
    rintro e w5 ⟨rfl, hF⟩
    have hF5 := hid (hF4.out.trans hF)
    rw [List.map_append, hCG.out]
    clear hF hF1 hF2 hF3 hF4 hj
    have q1 := hq1.out
    go_wp2_with (go_at_call 14; refine (fixed_walk _).mono ?_; rintro e w6 ⟨rfl, hF⟩; have hF6 := hid (hF5.out.trans hF))
    go_ret
    exact ⟨rfl, hF6.out⟩
set_option maxHeartbeats 8000000 in
set_option maxRecDepth 100000 in
theorem join_E (w : World) (a : Option Addr) (n ca : Nat) (l : List (CV × TS)) (ha : ChIn w a n ca l) (b : Option Addr) (m cb : Nat) (r : List (CV × TS)) (hb : ChIn w b m cb r) (hnm : n + m ≤ 1048576) (hE0 : (encode (l.map (·.1))).2 ≠ 0) :
    Calls Try.prog 8 #[.slice a n ca, .slice b m cb] w fun e w' => e = .returned (.bool true) ∧ Fr [] w w' := by
  have hbb : ∀ w : World, (binOp .neq 4 (.bool true) (.bool true)).run Try.prog w = .ok (.bool false) w := fun _ => rfl
  obtain ⟨i0, hi0, hz0, hz1, hz2⟩ := info_parts info_ch
  have HI := hid (And.intro hi0 (And.intro hz0 (And.intro hz1 hz2)))
  clear hi0 hz0 hz1 hz2
  have hE := encode_walk w a n ca l ha
  have hE2 := fun w1 (hF : Fr [] w w1) => encode_walk w1 b m cb r (hb.fr0 hF)
  obtain ⟨A, E, hAE⟩ : ∃ A E, encode (l.map (·.1)) = (A, E) := ⟨_, _, rfl⟩
  obtain ⟨B, F, hBF⟩ : ∃ B F, encode (r.map (·.1)) = (B, F) := ⟨_, _, rfl⟩
  obtain ⟨C, G, hCG⟩ : ∃ C G, encode (l.map (·.1) ++ r.map (·.1)) = (C, G) := ⟨_, _, rfl⟩
  obtain ⟨J1, J2⟩ := enc_join hAE hBF hCG
  rw [hAE] at hE
  rw [hBF] at hE2
  rw [List.length_map, List.length_map, ha.len, hb.len] at J1 J2
  have hmx := hid (show n + m ≤ maxLen by unfold maxLen; omega)
  have K : ∀ (h : G ≠ 0 ∨ n = 0 ∨ m = 0), ((G == 0) = false ∧ (G != 0) = true) ∨ G = 0 ∧ n = 0 ∨ G = 0 ∧ n ≠ 0 ∧ m = 0 := by
    intro h
    by_cases hG : G = 0
    · by_cases hn : n = 0
      · exact .inr (.inl ⟨hG, hn⟩)
      · exact .inr (.inr ⟨hG, hn, by rcases h with h | h | h; exact absurd hG h; exact absurd h hn; exact h⟩)
    · have h : (G == 0) = false := by rw [beq_eq_false_iff_ne]; exact hG
      exact .inl ⟨h, by simp [bne, h]⟩
  rw [hAE] at hE0
  have hE := hid hE
  have hE2 := hid hE2
  have hCG := hid hCG
  have HA := hid ha
  have HB := hid hb
  clear hAE hBF ha hb
  have hE1 : (E == 0) = false := by rw [beq_eq_false_iff_ne]; exact hE0
  have J := K (J1 (.inl hE0))
  clear J1 J2 K
  rcases J with ⟨hG, hG2⟩ | ⟨rfl, hn0⟩ | ⟨rfl, hn0, hm0⟩
  · skip
    go_enter Try.func8, Try.ntmps8
    go_wp2_with fail
    refine hE.out.mono ?_
    rintro e w1 ⟨rfl, hF⟩
    have hF1 := hid hF
    clear hF
    go_wp2_with fail
    refine (hE2.out _ hF1.out).mono ?_
    rintro e w2 ⟨rfl, hF⟩
    have hF2 := hid (hF1.out.trans hF)
    clear hF
    go_wp2_with (at_builtin; refine wpList_copied rfl (.tmp 22) (.tmp 23) 28 rfl 27 i0 (.agg #[.int .i64 0, .int .i64 0, .int .i64 0, .int .i64 0, .int .i64 0, .int .i64 0, .int .i64 0, .int .u64 0, .string ⟨#[]⟩, .slice none 0 0]) 10 104 Try.underlying28 HI.out.1 HI.out.2.1 HI.out.2.2.1 HI.out.2.2.2 rfl (by decide) w2.heap.size rfl (blk_alloc_at _ _ _ rfl) a n ca (cL.at_ l) rfl (HA.out.row.fr0 (hF2.out.alloc (.cells #[] 27))) (fun j _ => cL.at_one _ j) (by omega) ?_)
    intro g1 c1 w3 ho hF hg
    have hF3 := hid (((hF2.out.alloc (.cells #[] 27)).step hF (by intro x hx; simp at hx; subst hx; exact .inr hF2.out.size)))
    have ho1 := hid ho
    have hg1 := hid (show w.heap.size ≤ g1 by have := hF2.out.size; rcases hg with h | h <;> (first | omega | (simp at h; omega)))
    clear ho hg hF
    go_wp2_with (at_builtin; refine wpList_append_any rfl (.tmp 24) (.tmp 25) 28 rfl 27 i0 (.agg #[.int .i64 0, .int .i64 0, .int .i64 0, .int .i64 0, .int .i64 0, .int .i64 0, .int .i64 0, .int .u64 0, .string ⟨#[]⟩, .slice none 0 0]) 10 104 Try.underlying28 HI.out.1 HI.out.2.1 HI.out.2.2.1 HI.out.2.2.2 rfl (by decide) g1 n c1 _ rfl ho1.out b m cb (cL.at_ r) rfl (HB.out.row.fr0 hF3.out) (fun j _ => cL.at_one _ j) hmx.out (by omega) ?_)
    intro g2 c2 w4 ho hF hg
    have hF4 := hid ((hF3.out.step hF (by intro x hx; simp at hx; subst hx; exact .inr hg1.out)))
    have hj := hid (join_in HA.out HB.out hF4.out ho)
    clear ho hg hF ho1 hg1
    go_wp2_with fail
    refine (encode_walk _ _ _ _ _ hj.out).mono ?_
    rintro e w5 ⟨rfl, hF⟩
    have hF5 := hid (hF4.out.trans hF)
    rw [List.map_append, hCG.out]
    clear hF hF1 hF2 hF3 hF4 hj
    go_wp2_with (go_at_call 14; refine (fixed_walk _).mono ?_; rintro e w6 ⟨rfl, hF⟩; have hF6 := hid (hF5.out.trans hF))
    go_ret
    exact ⟨rfl, hF6.out⟩
  · have hq1 := hid (show (n : Int) = 0 by omega)
    clear hn0
    go_enter Try.func8, Try.ntmps8
    go_wp2_with fail
    refine hE.out.mono ?_
    rintro e w1 ⟨rfl, hF⟩
    have hF1 := hid hF
    clear hF
    go_wp2_with fail
    refine (hE2.out _ hF1.out).mono ?_
    rintro e w2 ⟨rfl, hF⟩
    have hF2 := hid (hF1.out.trans hF)
    clear hF
    go_wp2_with (at_builtin; refine wpList_copied rfl (.tmp 22) (.tmp 23) 28 rfl 27 i0 (.agg #[.int .i64 0, .int .i64 0, .int .i64 0, .int .i64 0, .int .i64 0, .int .i64 0, .int .i64 0, .int .u64 0, .string ⟨#[]⟩, .slice none 0 0]) 10 104 Try.underlying28 HI.out.1 HI.out.2.1 HI.out.2.2.1 HI.out.2.2.2 rfl (by decide) w2.heap.size rfl (blk_alloc_at _ _ _ rfl) a n ca (cL.at_ l) rfl (HA.out.row.fr0 (hF2.out.alloc (.cells #[] 27))) (fun j _ => cL.at_one _ j) (by omega) ?_)
    intro g1 c1 w3 ho hF hg
    have hF3 := hid (((hF2.out.alloc (.cells #[] 27)).step hF (by intro x hx; simp at hx; subst hx; exact .inr hF2.out.size)))
    have ho1 := hid ho
    have hg1 := hid (show w.heap.size ≤ g1 by have := hF2.out.size; rcases hg with h | h <;> (first | omega | (simp at h; omega)))
    clear ho hg hF
    go_wp2_with (at_builtin; refine wpList_append_any rfl (.tmp 24) (.tmp 25) 28 rfl 27 i0 (.agg #[.int .i64 0, .int .i64 0, .int .i64 0, .int .i64 0, .int .i64 0, .int .i64 0, .int .i64 0, .int .u64 0, .string ⟨#[]⟩, .slice none 0 0]) 10 104 Try.underlying28 HI.out.1 HI.out.2.1 HI.out.2.2.1 HI.out.2.2.2 rfl (by decide) g1 n c1 _ rfl ho1.out b m cb (cL.at_ r) rfl (HB.out.row.fr0 hF3.out) (fun j _ => cL.at_one _ j) hmx.out (by omega) ?_)
    intro g2 c2 w4 ho hF hg
    have hF4 := hid ((hF3.out.step hF (by intro x hx; simp at hx; subst hx; exact .inr hg1.out)))
    have hj := hid (join_in HA.out HB.out hF4.out ho)
    clear ho hg hF ho1 hg1
    go_wp2_with fail
    refine (encode_walk _ _ _ _ _ hj.out).mono ?_
    rintro e w5 ⟨rfl, hF⟩
    have hF5 := hid (hF4.out.trans hF)
    rw [List.map_append, hCG.out]
    clear hF hF1 hF2 hF3 hF4 hj
    have q1 := hq1.out
    go_wp2_with (go_at_call 14; refine (fixed_walk _).mono ?_; rintro e w6 ⟨rfl, hF⟩; have hF6 := hid (hF5.out.trans hF))
    go_ret
    exact ⟨rfl, hF6.out⟩
  · have hq1 := hid (show (m : Int) = 0 by omega)
    have hn1 : ¬ (n : Int) = 0 := by omega
    have hn2 : ((n : Int) == 0) = false := by rw [beq_eq_false_iff_ne]; exact hn1
    clear hm0 hn0
    go_enter Try.func8, Try.ntmps8
    go_wp2_with fail
    refine hE.out.mono ?_
    rintro e w1 ⟨rfl, hF⟩
    have hF1 := hid hF
    clear hF
    go_wp2_with fail
    refine (hE2.out _ hF1.out).mono ?_
    rintro e w2 ⟨rfl, hF⟩
    have hF2 := hid (hF1.out.trans hF)
    clear hF
    go_wp2_with (at_builtin; refine wpList_copied rfl (.tmp 22) (.tmp 23) 28 rfl 27 i0 (.agg #[.int .i64 0, .int .i64 0, .int .i64 0, .int .i64 0, .int .i64 0, .int .i64 0, .int .i64 0, .int .u64 0, .string ⟨#[]⟩, .slice none 0 0]) 10 104 Try.underlying28 HI.out.1 HI.out.2.1 HI.out.2.2.1 HI.out.2.2.2 rfl (by decide) w2.heap.size rfl (blk_alloc_at _ _ _ rfl) a n ca (cL.at_ l) rfl (HA.out.row.fr0 (hF2.out.alloc (.cells #[] 27))) (fun j _ => cL.at_one _ j) (by omega) ?_)
    intro g1 c1 w3 ho hF hg
    have hF3 := hid (((hF2.out.alloc (.cells #[] 27)).step hF (by intro x hx; simp at hx; subst hx; exact .inr hF2.out.size)))
    have ho1 := hid ho
    have hg1 := hid (show w.heap.size ≤ g1 by have := hF2.out.size; rcases hg with h | h <;> (first | omega | (simp at h; omega)))
    clear ho hg hF
    go_wp2_with (at_builtin; refine wpList_append_any rfl (.tmp 24) (.tmp 25) 28 rfl 27 i0 (.agg #[.int .i64 0, .int .i64 0, .int .i64 0, .int .i64 0, .int .i64 0, .int .i64 0, .int .i64 0, .int .u64 0, .string ⟨#[]⟩, .slice none 0 0]) 10 104 Try.underlying28 HI.out.1 HI.out.2.1 HI.out.2.2.1 HI.out.2.2.2 rfl (by decide) g1 n c1 _ rfl ho1.out b m cb (cL.at_ r) rfl (HB.out.row.fr0 hF3.out) (fun j _ => cL.at_one _ j) hmx.out (by omega) ?_)
    intro g2 c2 w4 ho hF hg
    have hF4 := hid ((hF3.out.step hF (by intro x hx; simp at hx; subst hx; exact .inr hg1.out)))
    have hj := hid (join_in HA.out HB.out hF4.out ho)
    clear ho hg hF ho1 hg1
    go_wp2_with fail
    refine (encode_walk _ _ _ _ _ hj.out).mono ?_
    rintro e w5 ⟨rfl, hF⟩
    have hF5 := hid (hF4.out.trans hF)
    rw [List.map_append, hCG.out]
    clear hF hF1 hF2 hF3 hF4 hj
    have q1 := hq1.out
    go_wp2_with (go_at_call 14; refine (fixed_walk _).mono ?_; rintro e w6 ⟨rfl, hF⟩; have hF6 := hid (hF5.out.trans hF))
    go_ret
    exact ⟨rfl, hF6.out⟩

theorem join_walk (w : World) (a : Option Addr) (n ca : Nat) (l : List (CV × TS)) (ha : ChIn w a n ca l) (b : Option Addr) (m cb : Nat) (r : List (CV × TS)) (hb : ChIn w b m cb r) (hnm : n + m ≤ 1048576) :
    Calls Try.prog 8 #[.slice a n ca, .slice b m cb] w fun e w' => e = .returned (.bool true) ∧ Fr [] w w' := by
  by_cases hE : (encode (l.map (·.1))).2 = 0
  · by_cases hF : (encode (r.map (·.1))).2 = 0
    · exact join_ok w a n ca l ha b m cb r hb hnm hE hF
    · exact join_F w a n ca l ha b m cb r hb hnm hF hE
  · exact join_E w a n ca l ha b m cb r hb hnm hE
end Go.Proofs.Ytdobbmlaokolmaa
