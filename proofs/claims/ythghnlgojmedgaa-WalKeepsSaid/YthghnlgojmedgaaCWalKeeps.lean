/-
  The walk of WalKeeps.
-/
import Derived.Test.YthghnlgojmedgaaM28
namespace Go.Proofs.Ythghnlgojmedgaa
open Go.RowKit
set_option linter.unusedVariables false
set_option linter.unusedSimpArgs false

theorem Apd.append2 {x : WS} {d : DS} {l : List ByteArray} (A : Apd x d l) (r : ByteArray) :
    ((x.append d r).1 ≠ 0 ∧ (x.append d r).2 = (x, d)) ∨ ((x.append d r).1 = 0 ∧ Apd (x.append d r).2.1 (x.append d r).2.2 (l ++ [r])) := by
  rcases log_append A.log r A.armed with ⟨h0, _, h⟩ | ⟨h1, _, h2, h3, h4, _⟩
  · exact .inl ⟨h0, h⟩
  · refine .inr ⟨h1, h2, h3, ?_, ?_⟩
    · have := A.raw; rw [List.length_append, List.length_singleton]; omega
    · rw [append_number h1, A.num, List.length_append]; rfl

section
variable {W : Base} {w : World} {R : List Thing}
theorem St.rowStr (H : St W w R) (i : Nat) {v : Value} {l : List ByteArray} (hi : R[i]? = some (RowT 9 1 v l.length (l.map Value.string))) : ∃ a c, v = .slice a l.length c ∧ In w 1 a l.length c (strV l) := by
  have h := H.row i hi
  rcases owns_one h with ⟨rfl, hn, _⟩ | ⟨g, cap, rfl, hle, hmx⟩
  · refine ⟨none, 0, by rw [hn], by rw [hn]; exact Nat.le_refl _, by decide, fun h0 => by omega, fun b off e => by cases e⟩
  · exact ⟨_, cap, rfl, owns_in h (strV l) (fun j hj => map_str l j hj)⟩
theorem St.wvIn (H : St W w R) (i : Nat) {a : Option Addr} {l : List ByteArray} (hl : l.length ≤ 65536) (hi : R[i]? = some (WvT 9 1 a l.length (strV l))) : In w 1 a l.length l.length (strV l) :=
  (H.wv i hi).toIn (Nat.le_refl _) (by unfold maxLen; omega)
theorem St.empty (H : St W w R) : St W (w.alloc (.cells #[] 9)) (R ++ [RowT 9 1 (.slice (some ⟨w.heap.size, 0, none⟩) 0 0) 0 []]) :=
  H.new (A := Row1 9 1 (.slice (some ⟨w.heap.size, 0, none⟩) 0 0) 0 []) (F := [w.heap.size]) ((Fr.refl _ _).alloc _) inferInstance
    ⟨rfl, by simp, Or.inr ⟨_, _, #[], rfl, Nat.zero_le _, blk_alloc_at _ _ _ rfl, Nat.le_refl _, by decide, by simp, by simp⟩⟩ (by simp)
end
def overS : ByteArray := ⟨#[111, 118, 101, 114]⟩

set_option maxHeartbeats 1600000 in
set_option maxRecDepth 100000 in
theorem walkeeps_any (w : World) (a : Option Addr) (n cap : Nat) (ss : List ByteArray) (hn : ss.length = n) (hI : In w 1 a n cap (strV ss)) (hsz : ∀ i, i < n → (sAt ss i).size ≤ 140737488351232) :
    Calls Try.prog 3 #[.slice a n cap] w fun e w' => e = .returned (.bool true) ∧ Fr [] w w' := by
  have H := St.refl w
  have HI := hid hI
  have HSZ := hid hsz
  have hm := hI.max
  clear hI hsz
  have hnl := new_log (n := 20) (by decide) (by decide) (by decide)
  have HN := hid (st_dnew H 20 (by decide) (by decide))
  have hf0 : roomN (DS.new 20).sec.length ≠ 0 := by
    rw [show (DS.new 20).sec.length = 20 by simp [DS.new]]; decide
  have hw0 := new_wf (n := 20) (by decide) (by decide)
  have hno := new_none (n := 20) (by decide)
  have HFM := hid (fun (w' : World) (D : Nat) (h : St (.of w) w' [DkT D (DS.new 20)]) => st_wformat h 0 rfl hw0 rfl hf0 (by show (0 + 1) * 24 ≤ _; decide))
  have HNO := hid hno
  obtain ⟨z, hz⟩ : ∃ z, ((DS.new 20).write 1 (secB fmtH)).1 = z := ⟨_, rfl⟩
  obtain ⟨d1, hd1⟩ : ∃ z, ((DS.new 20).write 1 (secB fmtH)).2 = z := ⟨_, rfl⟩
  rw [hz, hd1] at hnl HFM
  obtain ⟨rfl, hL, ha, hr, hs, hz0⟩ := hnl
  have HL := hid (And.intro hL (And.intro ha (And.intro hr (And.intro hs hz0))))
  have HMX := hid (And.intro hm hn)
  clear H hz hd1 hL ha hr hs hz0 hf0 hw0 hno hm hn
  go_enter Try.func3, Try.ntmps3
  go_wp2_with fail
  refine HN.out.mono ?_
  rintro e w1 ⟨D, rfl, hS1⟩
  have hS1 : St (.of w) w1 [DkT D (DS.new 20)] := by simpa using hS1
  have HF1 := hid (HFM.out w1 D hS1)
  clear hS1
  go_wp2_with fail
  refine HF1.out.mono ?_
  rintro e w2 (⟨⟨h, s, l, hc⟩, _⟩ | ⟨_, rfl, hS2⟩)
  · exact absurd hc.fd (HNO.out _ (by omega) _ _ _)
  have hS2 : St (.of w) w2 [DkT D d1] := by simpa using hS2
  have HO := hid (st_lopen (x := ⟨fmtH, 0, false⟩) hS2 0 rfl HL.out.1.wf HL.out.1.on HL.out.1.fit HL.out.1.cnt)
  clear HF1 hS2
  go_wp2_with fail
  refine HO.out.mono ?_
  rintro e w3 ⟨B, p, rfl, H⟩
  have H : St (.of w) w3 [DkT D d1, WvT 9 1 p ([] : List ByteArray).length (strV []), WlT B D ⟨fmtH, 0, false⟩] := by simpa using H
  have H : St (.of w) w3 [DkT D d1, WlT B D ⟨fmtH, 0, false⟩] := by
    refine H.sub (B := [WvT 9 1 p ([] : List ByteArray).length (strV [])]) ?_
    exact List.Perm.cons _ (List.Perm.swap _ _ _)
  have HE := hid H.empty
  have HA := hid (show Apd ⟨fmtH, 0, false⟩ d1 [] from ⟨HL.out.1, HL.out.2.1, by rw [HL.out.2.2.1]; decide, rfl⟩)
  clear HO H
  go_wp2_with fail
  go_loopw [9, 10] (fun wv iv wr => ∃ (k : Nat) (x : WS) (d : DS) (l : List ByteArray), k ≤ n ∧ iv = .int .i64 k ∧ Hid (Apd x d l) ∧ St (.of w) wr [DkT D d, WlT B D x, RowT 9 1 wv l.length (l.map Value.string)]) (fun _ iv _ => n - (intOf iv).toNat)
  case atStart => exact ⟨0, _, _, [], Nat.zero_le _, rfl, HA, by simpa using HE.out⟩
  case round =>
    obtain ⟨k, x, d, l, hk, rfl, hA, H⟩ := hrel
    by_cases hlt : k < n
    · obtain ⟨b, off, rfl⟩ := HI.out.sm (by omega)
      obtain ⟨r, hr⟩ : ∃ r, sAt ss k = r := ⟨_, rfl⟩
      have hcell : ∀ w', Fr [] w w' → w'.cell? ⟨b, off + k, none⟩ = some (.string r) := fun w' hF => by
        have h1 := (HI.out.fr0 hF).cell b off rfl k (by omega)
        rw [← hr]; exact h1
      have hrs := HSZ.out k hlt
      rw [hr] at hrs
      have HC := hid hcell
      have HR := hid hrs
      have HLT := hid (And.intro hlt hk)
      have hltI : (k : Int) < n := by omega
      have HK := hid (show IntKind.i64.wrap ((k : Int) + 1) = (k : Int) + 1 from IntWalk.i64_in _ (by have := HMX.out.1; omega))
      clear hcell hrs hr HE
      have c1 := HC.out wr H.fr
      have hap := st_wappend H 1 0 (B := B) (D := D) (x := x) (d := d) rfl rfl (by decide) hA.out.log.i r (by have := HR.out; omega) hA.out.rawOk
      rcases hA.out.append2 r with ⟨hz, hsame⟩ | ⟨hz, hA'⟩
      · obtain ⟨z, hzz⟩ : ∃ z, (x.append d r).1 = z := ⟨_, rfl⟩
        rw [hsame, hzz] at hap
        rw [hzz] at hz
        have hzb : (z == 0) = false := by rw [beq_eq_false_iff_ne]; exact hz
        have HAP := hid hap
        clear hap hsame hzz hz H hk hlt
        go_wp2_with fail
        refine HAP.out.mono ?_
        rintro e w4 ⟨rfl, H⟩
        have HH := hid (show St (.of w) w4 [DkT D d, WlT B D x, RowT 9 1 u9 l.length (l.map Value.string)] from H)
        have hwk := HK.out
        clear H c1 HAP
        go_wp2_with fail
        go_roundw
        case rel => exact ⟨k + 1, x, d, l, HLT.out.1, by go_num, hA, HH.out⟩
        case measure => have := HLT.out.1; simp [intOf]; omega
      · obtain ⟨x', hx'⟩ : ∃ y, (x.append d r).2.1 = y := ⟨_, rfl⟩
        obtain ⟨d', hd'⟩ : ∃ y, (x.append d r).2.2 = y := ⟨_, rfl⟩
        rw [hz, hx', hd'] at hap
        rw [hx', hd'] at hA'
        have HAP := hid hap
        have HA' := hid hA'
        clear hap hx' hd' hz hA' H hk hlt
        go_wp2_with fail
        refine HAP.out.mono ?_
        rintro e w4 ⟨rfl, H⟩
        have c2 := HC.out w4 H.fr
        have hll := HA'.out.log.len.1
        rw [List.length_append, List.length_singleton] at hll
        obtain ⟨i0, hi0, hz0, hz1, hz2⟩ := info_parts info_string
        have HIN := hid (And.intro hi0 (And.intro hz0 (And.intro hz1 hz2)))
        have HROW := hid (St.append (H.alloc_ (.cells #[.string r] 9)) 2 (e := 9) (size := 1) (n := l.length) (v := u9) (xs := l.map Value.string) rfl)
        have HLEN := hid hll
        clear H c1 hi0 hz0 hz1 hz2 HAP hll
        go_wp2_with (at_builtin; refine wpList_append_blk rfl (.tmp 58) (.tmp 63) 22 rfl 9 i0 (.string ByteArray.empty) 1 16 Try.underlying22 HIN.out.1 HIN.out.2.1 HIN.out.2.2.1 HIN.out.2.2.2 rfl (by decide) u9 l.length (l.map Value.string) rfl HROW.out.1 ⟨w4.heap.size, 0, none⟩ 1 1 [.string r] rfl rfl (news_alloc w4 [.string r] 9) (by intro u hu; simp at hu; subst hu; rfl) (by have := HLEN.out; unfold maxLen; omega) (by have := HLEN.out; omega) ?_)
        intro v' w9 ho hF hb hnn
        have H9 := hid (HROW.out.2 v' w9 (l.length + 1) (l.map Value.string ++ [.string r]) ho (by simpa using hF) (by simpa using hb))
        have hwk := HK.out
        clear ho hF hb hnn HROW c2
        go_wp2_with fail
        go_roundw
        case rel =>
          refine ⟨k + 1, x', d', l ++ [r], HLT.out.1, by go_num, HA', ?_⟩
          have h := H9.out
          rw [List.length_append, List.map_append]
          exact h
        case measure => have := HLT.out.1; simp [intOf]; omega
    · obtain rfl : k = n := by omega
      have HLg := hid hA.out.log
      have hll := hA.out.log.len.1
      have HLL := hid hll
      obtain ⟨aw, cw, rfl, _⟩ := H.rowStr 2 (v := u9) (l := l) rfl
      have HO1 := hid (st_lopen (x := x) H 0 rfl HLg.out.wf HLg.out.on HLg.out.fit HLg.out.cnt)
      clear H hA HE hk hlt hll
      go_wp2_with fail
      refine HO1.out.mono ?_
      rintro e w4 ⟨B1, p1, rfl, H⟩
      have HO2 := hid (st_lopen (x := x) H 0 rfl HLg.out.wf HLg.out.on HLg.out.fit HLg.out.cnt)
      clear H HO1
      go_wp2_with fail
      refine HO2.out.mono ?_
      rintro e w5 ⟨B2, p2, rfl, H⟩
      have H : St (.of w) w5 [DkT D d, WlT B D x, RowT 9 1 (.slice aw l.length cw) l.length (l.map Value.string), WvT 9 1 p1 l.length (strV l), WlT B1 D ⟨x.h, l.length, false⟩, WvT 9 1 p2 l.length (strV l), WlT B2 D ⟨x.h, l.length, false⟩] := H
      have hrow : ∀ (w' : World) (T : List Thing), St (.of w) w' ([DkT D d, WlT B D x, RowT 9 1 (.slice aw l.length cw) l.length (l.map Value.string)] ++ T) → In w' 1 aw l.length cw (strV l) := fun w' T h => by
        obtain ⟨a', c', e, hi⟩ := h.rowStr 2 (v := .slice aw l.length cw) (l := l) rfl
        simp only [Value.slice.injEq, true_and] at e
        obtain ⟨rfl, rfl⟩ := e
        exact hi
      have HROW := hid hrow
      have HS1 := hid (st_same H (H.wvIn 3 HLL.out rfl) (HROW.out w5 _ H))
      clear H HO2 hrow
      go_wp2_with fail
      refine HS1.out.mono ?_
      rintro e w6 ⟨rfl, H⟩
      have HH := hid H
      clear H HS1
      go_wp2_with fail
      go_loopw [19] (fun iv wr => ∃ (q : Nat) (V : Nat → Value), q ≤ l.length ∧ iv = .int .i64 q ∧ St (.of w) wr [DkT D d, WlT B D x, RowT 9 1 (.slice aw l.length cw) l.length (l.map Value.string), WvT 9 1 p1 l.length V, WlT B1 D ⟨x.h, l.length, false⟩, WvT 9 1 p2 l.length (strV l), WlT B2 D ⟨x.h, l.length, false⟩]) (fun iv _ => l.length - (intOf iv).toNat)
      case atStart => exact ⟨0, strV l, Nat.zero_le _, rfl, HH.out⟩
      case round =>
        obtain ⟨q, V, hq, rfl, H⟩ := hrel
        by_cases hql : q < l.length
        · have hwv := H.wv 3 (e := 9) (sz := 1) (n := l.length) (a := p1) (V := V) rfl
          obtain ⟨g, rfl⟩ := hwv.sm (by omega)
          have hc := hwv.cell q (by omega)
          have hfz := hwv.free q
          rw [Nat.zero_add] at hc hfz
          have hset := H.setWv 3 (e := 9) (sz := 1) (n := l.length) (g := g) (V := V) rfl q (.string ⟨#[111, 118, 101, 114]⟩)
          have HSET := hid hset
          have HQL := hid (And.intro hql hq)
          have hqI : (q : Int) < l.length := by omega
          have hwq : IntKind.i64.wrap ((q : Int) + 1) = (q : Int) + 1 := IntWalk.i64_in _ (by have := HLL.out; omega)
          clear hset hwv H HH hql hq
          go_wp2_with fail
          go_roundw
          case rel => exact ⟨q + 1, _, HQL.out.1, by go_num, HSET.out⟩
          case measure => have := HQL.out.1; simp [intOf]; omega
        · obtain rfl : q = l.length := by omega
          have hin := (H.wv 3 (e := 9) (sz := 1) (n := l.length) (a := p1) (V := V) rfl).toIn (cap := l.length) (Nat.le_refl _) (by have := HLL.out; unfold maxLen; omega)
          have HIN := hid (hin.fr0 ((Fr.refl [] wr).alloc (.cells #[.string ⟨#[109, 111, 114, 101]⟩] 9)))
          have HH2 := hid (H.alloc_ (.cells #[.string ⟨#[109, 111, 114, 101]⟩] 9))
          obtain ⟨i0, hi0, hz0, hz1, hz2⟩ := info_parts info_string
          have HI0 := hid (And.intro hi0 (And.intro hz0 (And.intro hz1 hz2)))
          clear H hin HH hi0 hz0 hz1 hz2 hql hq
          go_wp2_with (at_builtin; refine wpList_append_full rfl (.tmp 92) (.tmp 93) 22 rfl 9 i0 (.string ByteArray.empty) 1 16 Try.underlying22 HI0.out.1 HI0.out.2.1 HI0.out.2.2.1 HI0.out.2.2.2 rfl (by decide) p1 l.length V rfl HIN.out ⟨wr.heap.size, 0, none⟩ 1 1 [.string ⟨#[109, 111, 114, 101]⟩] rfl (by decide) rfl (news_alloc wr [.string ⟨#[109, 111, 114, 101]⟩] 9) (by intro u hu; simp at hu; subst hu; rfl) (by have := HLL.out; unfold maxLen; omega) (by have := HLL.out; omega) ?_)
          intro g' cap' w9 hF9
          have H := HH2.out.same hF9
          have HO3 := hid (st_lopen (x := x) H 0 rfl HLg.out.wf HLg.out.on HLg.out.fit HLg.out.cnt)
          clear H hF9 HH2 HIN
          go_wp2_with fail
          refine HO3.out.mono ?_
          rintro e w10 ⟨B3, p3, rfl, H⟩
          have H : St (.of w) w10 [DkT D d, WlT B D x, RowT 9 1 (.slice aw l.length cw) l.length (l.map Value.string), WvT 9 1 p1 l.length V, WlT B1 D ⟨x.h, l.length, false⟩, WvT 9 1 p2 l.length (strV l), WlT B2 D ⟨x.h, l.length, false⟩, WvT 9 1 p3 l.length (strV l), WlT B3 D ⟨x.h, l.length, false⟩] := H
          have HS2 := hid (st_same H (H.wvIn 5 HLL.out rfl) (HROW.out w10 _ H))
          have hwl : IntKind.i64.wrap ((l.length : Int) + 1) = (l.length : Int) + 1 := IntWalk.i64_in _ (by have := HLL.out; omega)
          clear H HO3
          go_wp2_with fail
          refine HS2.out.mono ?_
          rintro e w11 ⟨rfl, H⟩
          have HS3 := hid (st_same H (H.wvIn 7 HLL.out rfl) (HROW.out w11 _ H))
          clear H HS2
          go_wp2_with fail
          refine HS3.out.mono ?_
          rintro e w12 ⟨rfl, H⟩
          have hrc := st_wrecords H 1 (B := B) (D := D) (x := x) rfl
          rw [HLg.out.n] at hrc
          have HRC := hid hrc
          clear H HS3 hrc
          go_wp2_with fail
          refine HRC.out.mono ?_
          rintro e w13 ⟨rfl, H⟩
          have HF := hid (st_fixed09 H)
          clear H HRC
          go_wp2_with fail
          refine HF.out.mono ?_
          rintro e w14 ⟨rfl, H⟩
          have hfr := hid H.fr
          clear H
          go_wp2_with fail
          go_ret
          exact ⟨by simp, hfr.out⟩

theorem walkeeps_walk (w : World) (a : Option Addr) (n cap : Nat) (V : Nat → Value) (hS : SlIn w 1 16 a n cap V) (hq : ∀ i, i < n → Str (V (i * 1))) :
    Calls Try.prog 3 #[.slice a n cap] w fun e w' => e = .returned (.bool true) ∧ Fr [] w w' := by
  obtain ⟨ss, hl, hI, _, hsz⟩ := strs_of hS hq
  exact walkeeps_any w a n cap ss hl hI hsz
end Go.Proofs.Ythghnlgojmedgaa
