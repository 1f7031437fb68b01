/-
  RecordReturns: the walk.
-/
import Derived.Test.YtdobbmlaokolmaaRecordOnly
namespace Go.Proofs.Ytdobbmlaokolmaa
open Go.RowKit
set_option linter.unusedVariables false
set_option linter.unusedSimpArgs false

theorem dec_some {w : World} {b : ByteArray} {l : List CV} (hb : b.size ≤ 140737488355328) (h : decode b = some l) :
    Calls Try.prog 18 #[.string b] w fun e w' => ∃ (a : Option Addr) (l' : List (CV × TS)), l'.map (·.1) = l ∧ e = .returned (.tuple #[.slice a l.length l.length, .int .i64 0]) ∧ ChIn w' a l.length l.length l' ∧ Fr [] w w' := by
  have hd := st_decode (St.refl w) b hb
  rw [h] at hd
  refine hd.mono ?_
  rintro e w' ⟨a, l', hl, rfl, H⟩
  have hbits := (decode_iff.1 h).2
  have := H.chIn (fun x hx => hbits x.1 (by rw [← hl]; exact List.mem_map_of_mem hx))
  have hlen : l'.length = l.length := by rw [← hl, List.length_map]
  rw [hlen] at this
  exact ⟨a, l', hl, rfl, this, H.fr⟩
theorem dec_none {w : World} {b : ByteArray} (hb : b.size ≤ 140737488355328) (h : decode b = none) :
    Calls Try.prog 18 #[.string b] w fun e w' => e = .returned (.tuple #[.slice none 0 0, .int .i64 83]) ∧ Fr [] w w' := by
  have hd := st_decode (St.refl w) b hb
  rw [h] at hd
  refine hd.mono ?_
  rintro e w' ⟨rfl, H⟩
  exact ⟨rfl, H.fr⟩

theorem dec_short {x : ByteArray} {l : List CV} {k : Nat} (h : decode x = some l) (hk : k < x.size) : decode (x.extract 0 k) = none := by
  rcases hd : decode (x.extract 0 k) with _ | m
  · rfl
  · exfalso
    obtain ⟨_, h2, h3, h4, h5⟩ := decode_sound hd
    obtain ⟨g1, _⟩ := decode_sound h
    rw [extract_bl, List.drop_zero] at h5
    have e : bl x = rowB m ++ (bl x).drop k := by rw [← h5, List.take_append_drop]
    have := decode_of g1 h3 h4 e
    rw [h, if_pos (.inl (by intro h6; have := congrArg List.length h6; rw [List.length_drop, bl_len] at this; simp at this; omega))] at this
    cases this
theorem dec_more {x : ByteArray} {l : List CV} (h : decode x = some l) : decode (x ++ ⟨#[0]⟩) = none := by
  obtain ⟨g1, g2, g3, g4, g5⟩ := decode_sound h
  by_cases hb : (x ++ ⟨#[0]⟩ : ByteArray).size ≤ 2048
  · have e : bl (x ++ ⟨#[0]⟩) = rowB l ++ [0] := by rw [bl_app, g5]; rfl
    rw [decode_of hb g3 g4 e, if_pos (.inl (by simp))]
  · unfold decode; rw [if_pos (by omega)]

theorem enc_err {l : List CV} {A : ByteArray} {E : Int} (h : encode l = (A, E)) (hE : E ≠ 0) : A = ⟨#[]⟩ := by
  unfold encode at h
  split at h
  · split at h
    · exact (Prod.mk.inj h).1.symm
    · split at h
      · exact (Prod.mk.inj h).1.symm
      · exact absurd (Prod.mk.inj h).2.symm hE
  · exact (Prod.mk.inj h).1.symm

set_option maxHeartbeats 1600000 in
set_option maxRecDepth 100000 in
theorem returns_walk (w : World) (a : Option Addr) (n ca : Nat) (l : List (CV × TS)) (ha : ChIn w a n ca l) (s : ByteArray) (hs : s.size ≤ 140737488351232) (cut : Int) (hc1 : -9223372036854775808 ≤ cut) (hc2 : cut ≤ 9223372036854775807) :
    Calls Try.prog 6 #[.slice a n ca, .string s, .int .i64 cut] w fun e w' => e = .returned (.bool true) ∧ Fr [] w w' := by
  have hm1 := ha.row.max
  have hE := encode_walk w a n ca l ha
  obtain ⟨A, E, hAE⟩ : ∃ A E, encode (l.map (·.1)) = (A, E) := ⟨_, _, rfl⟩
  rw [hAE] at hE
  have hE := hid hE
  by_cases hE0 : E = 0
  · subst hE0
    have hdA := decode_iff.2 ⟨hAE, ha.bits⟩
    obtain ⟨⟨_, _⟩, hA2, hA0, _⟩ := enc_first hAE
    have hdA1 := hid (fun w1 (_ : Fr [] w w1) => dec_some (w := w1) (b := A) (by omega) hdA)
    have hdA3 := hid (fun w1 (_ : Fr [] w w1) => dec_none (w := w1) (b := A ++ ⟨#[0]⟩) (by rw [ByteArray.size_append]; show A.size + 1 ≤ _; omega) (dec_more hdA))
    have hAn : ((A.size : Int) == 0) = false := by rw [beq_eq_false_iff_ne]; omega
    have hAe : A.toList.isEmpty = false := by
      cases he : A.toList.isEmpty
      · rfl
      · have := size0.1 he; omega
    have hlm : (l.map (·.1)).length = n := by rw [List.length_map, ha.len]
    rw [hlm] at hdA1
    have HA := hid ha
    have hcat : ¬ 9223372036854775807 < A.size + (⟨#[0]⟩ : ByteArray).size := by show ¬ 9223372036854775807 < A.size + 1; omega
    by_cases hneg : cut < 0
    · obtain ⟨c, hc⟩ := Int.eq_ofNat_of_zero_le (show 0 ≤ -(cut + 1) by omega)
      have hk : c % A.size < A.size := Nat.mod_lt _ hA0
      have hw1 : IntKind.i64.wrap (cut + 1) = cut + 1 := IntWalk.i64_in _ (by omega)
      have hw2 : IntKind.i64.wrap (-(cut + 1)) = (c : Int) := by rw [hc]; exact IntWalk.i64_in _ (by omega)
      have hrm : Int.tmod (c : Int) A.size = ((c % A.size : Nat) : Int) := by first | exact (Int.natCast_tmod c A.size).symm | exact (Int.ofNat_tmod c A.size).symm
      have hdA2 := hid (fun w1 (_ : Fr [] w w1) => dec_none (w := w1) (b := A.extract 0 (c % A.size)) (by rw [ByteArray.size_extract]; omega) (dec_short hdA hk))
      have hc := hid hc
      clear hdA hAE ha
      go_enter Try.func6, Try.ntmps6
      go_wp2_with fail
      refine hE.out.mono ?_
      rintro e w1 ⟨rfl, hF⟩
      have hF1 := hid hF
      clear hF
      go_wp2_with fail
      refine (hdA1.out _ hF1.out).mono ?_
      rintro e w2 ⟨a', l', hl', rfl, hci, hF⟩
      have hF2 := hid (hF1.out.trans hF)
      have hsm := hid (And.intro (same_walk w2 a' a n n n ca l' l hci (HA.out.fr0 hF2.out)) hl')
      clear hF hci hl'
      go_wp2_with fail
      refine hsm.out.1.mono ?_
      rintro e w7 ⟨⟨z, rfl, hz⟩, hF⟩
      have hFs := hid (hF2.out.trans hF)
      obtain rfl : z = true := hz.2 hsm.out.2
      clear hz hF
      go_wp2_with fail
      refine (hdA2.out _ hFs.out).mono ?_
      rintro e w3 ⟨rfl, hF⟩
      have hF3 := hid (hFs.out.trans hF)
      clear hF
      go_wp2_with fail
      refine (hdA3.out _ hF3.out).mono ?_
      rintro e w4 ⟨rfl, hF⟩
      have hF4 := hid (hF3.out.trans hF)
      clear hF
      go_wp2_with fail
      rcases hD : decode s with _ | m
      · refine (dec_none (by omega) hD).mono ?_
        rintro e w5 ⟨rfl, hF⟩
        have hF5 := hid ((hF4.out).trans hF)
        clear hF hD
        go_wp2_with (go_at_call 14; refine (fixed_walk _).mono ?_; rintro e w8 ⟨rfl, hF8⟩; have hF8 := hid hF8)
        go_ret
        exact ⟨rfl, hF5.out.trans hF8.out⟩
      · have hsd := decode_sound hD
        have hen := (decode_iff.1 hD).1
        refine (dec_some (by omega) hD).mono ?_
        rintro e w5 ⟨a5, l', hl', rfl, hci, hF⟩
        have hF5 := hid ((hF4.out).trans hF)
        have hM := hid (And.intro hl' (And.intro hci (And.intro hen (fun c hc => (hsd.2.2.2.1 c hc).1))))
        have hmm := hci.row.max
        clear hF hci hl' hsd hen hD
        go_wp2_with fail
        refine (encode_walk w5 _ _ _ l' hM.out.2.1).mono ?_
        rintro e w6 ⟨he, hF⟩
        rw [hM.out.1, hM.out.2.2.1] at he
        subst he
        have hF6 := hid hF
        clear hF
        go_wp2_with fail
        go_loopw [19] (fun iv wr => ∃ k : Nat, k ≤ m.length ∧ iv = .int .i64 k ∧ Fr [] w5 wr) (fun iv _ => m.length - (intOf iv).toNat)
        case atStart => exact ⟨0, Nat.zero_le _, rfl, hF6.out⟩
        case round =>
          obtain ⟨k, hk, rfl, hFr⟩ := hrel
          by_cases hlt : k < m.length
          · obtain ⟨bb, ob, rfl⟩ := hM.out.2.1.row.sm (by omega)
            obtain ⟨x, hx⟩ : ∃ x, cL.nth l' k = x := ⟨_, rfl⟩
            have hkl : k < l'.length := by rw [hM.out.2.1.len]; exact hlt
            obtain ⟨c0, c1, c2, c3, c4, c5, c6, c7, c8, c9⟩ := ch_cells (hM.out.2.1.row.fr0 hFr) k hlt x hx
            have hxm : x ∈ l' := by rw [← hx]; exact cL.mem_nth hkl
            have hcw := check_walk wr x.1 x.2 ((hM.out.2.1.one x hxm).1.fr0 hFr)
            rw [hM.out.2.2.2 x.1 (by rw [← hM.out.1]; exact List.mem_map_of_mem hxm)] at hcw
            have hcw := hid hcw
            have hFr := hid hFr
            clear hx hkl hxm
            go_wp2_with (go_at_call 11; refine hcw.out.mono ?_; rintro e w2 ⟨rfl, hF2⟩; have hF2 := hid hF2)
            go_roundw
            case rel => exact ⟨k + 1, by omega, by go_num, hFr.out.trans hF2.out⟩
            case measure => simp [intOf]; omega
          · have hFr := hid hFr
            have hss : (s.toList == s.toList) = true := by simp
            go_wp2_with (go_at_call 14; refine (fixed_walk _).mono ?_; rintro e w8 ⟨rfl, hF8⟩; have hF8 := hid hF8)
            go_ret
            exact ⟨rfl, ((hF5.out.trans hFr.out)).trans hF8.out⟩
    · obtain ⟨c, rfl⟩ := Int.eq_ofNat_of_zero_le (show 0 ≤ cut by omega)
      have hk : c % A.size < A.size := Nat.mod_lt _ hA0
      have hrm : Int.tmod (c : Int) A.size = ((c % A.size : Nat) : Int) := by first | exact (Int.natCast_tmod c A.size).symm | exact (Int.ofNat_tmod c A.size).symm
      have hdA2 := hid (fun w1 (_ : Fr [] w w1) => dec_none (w := w1) (b := A.extract 0 (c % A.size)) (by rw [ByteArray.size_extract]; omega) (dec_short hdA hk))
      clear hdA hAE ha
      go_enter Try.func6, Try.ntmps6
      go_wp2_with fail
      refine hE.out.mono ?_
      rintro e w1 ⟨rfl, hF⟩
      have hF1 := hid hF
      clear hF
      go_wp2_with fail
      refine (hdA1.out _ hF1.out).mono ?_
      rintro e w2 ⟨a', l', hl', rfl, hci, hF⟩
      have hF2 := hid (hF1.out.trans hF)
      have hsm := hid (And.intro (same_walk w2 a' a n n n ca l' l hci (HA.out.fr0 hF2.out)) hl')
      clear hF hci hl'
      go_wp2_with fail
      refine hsm.out.1.mono ?_
      rintro e w7 ⟨⟨z, rfl, hz⟩, hF⟩
      have hFs := hid (hF2.out.trans hF)
      obtain rfl : z = true := hz.2 hsm.out.2
      clear hz hF
      go_wp2_with fail
      refine (hdA2.out _ hFs.out).mono ?_
      rintro e w3 ⟨rfl, hF⟩
      have hF3 := hid (hFs.out.trans hF)
      clear hF
      go_wp2_with fail
      refine (hdA3.out _ hF3.out).mono ?_
      rintro e w4 ⟨rfl, hF⟩
      have hF4 := hid (hF3.out.trans hF)
      clear hF
      go_wp2_with fail
      rcases hD : decode s with _ | m
      · refine (dec_none (by omega) hD).mono ?_
        rintro e w5 ⟨rfl, hF⟩
        have hF5 := hid ((hF4.out).trans hF)
        clear hF hD
        go_wp2_with (go_at_call 14; refine (fixed_walk _).mono ?_; rintro e w8 ⟨rfl, hF8⟩; have hF8 := hid hF8)
        go_ret
        exact ⟨rfl, hF5.out.trans hF8.out⟩
      · have hsd := decode_sound hD
        have hen := (decode_iff.1 hD).1
        refine (dec_some (by omega) hD).mono ?_
        rintro e w5 ⟨a5, l', hl', rfl, hci, hF⟩
        have hF5 := hid ((hF4.out).trans hF)
        have hM := hid (And.intro hl' (And.intro hci (And.intro hen (fun c hc => (hsd.2.2.2.1 c hc).1))))
        have hmm := hci.row.max
        clear hF hci hl' hsd hen hD
        go_wp2_with fail
        refine (encode_walk w5 _ _ _ l' hM.out.2.1).mono ?_
        rintro e w6 ⟨he, hF⟩
        rw [hM.out.1, hM.out.2.2.1] at he
        subst he
        have hF6 := hid hF
        clear hF
        go_wp2_with fail
        go_loopw [19] (fun iv wr => ∃ k : Nat, k ≤ m.length ∧ iv = .int .i64 k ∧ Fr [] w5 wr) (fun iv _ => m.length - (intOf iv).toNat)
        case atStart => exact ⟨0, Nat.zero_le _, rfl, hF6.out⟩
        case round =>
          obtain ⟨k, hk, rfl, hFr⟩ := hrel
          by_cases hlt : k < m.length
          · obtain ⟨bb, ob, rfl⟩ := hM.out.2.1.row.sm (by omega)
            obtain ⟨x, hx⟩ : ∃ x, cL.nth l' k = x := ⟨_, rfl⟩
            have hkl : k < l'.length := by rw [hM.out.2.1.len]; exact hlt
            obtain ⟨c0, c1, c2, c3, c4, c5, c6, c7, c8, c9⟩ := ch_cells (hM.out.2.1.row.fr0 hFr) k hlt x hx
            have hxm : x ∈ l' := by rw [← hx]; exact cL.mem_nth hkl
            have hcw := check_walk wr x.1 x.2 ((hM.out.2.1.one x hxm).1.fr0 hFr)
            rw [hM.out.2.2.2 x.1 (by rw [← hM.out.1]; exact List.mem_map_of_mem hxm)] at hcw
            have hcw := hid hcw
            have hFr := hid hFr
            clear hx hkl hxm
            go_wp2_with (go_at_call 11; refine hcw.out.mono ?_; rintro e w2 ⟨rfl, hF2⟩; have hF2 := hid hF2)
            go_roundw
            case rel => exact ⟨k + 1, by omega, by go_num, hFr.out.trans hF2.out⟩
            case measure => simp [intOf]; omega
          · have hFr := hid hFr
            have hss : (s.toList == s.toList) = true := by simp
            go_wp2_with (go_at_call 14; refine (fixed_walk _).mono ?_; rintro e w8 ⟨rfl, hF8⟩; have hF8 := hid hF8)
            go_ret
            exact ⟨rfl, ((hF5.out.trans hFr.out)).trans hF8.out⟩
  · have hE1 : (E == 0) = false := by rw [beq_eq_false_iff_ne]; exact hE0
    obtain rfl := enc_err hAE hE0
    clear hAE ha
    go_enter Try.func6, Try.ntmps6
    go_wp2_with fail
    refine hE.out.mono ?_
    rintro e w1 ⟨rfl, hF⟩
    have hF1 := hid hF
    clear hF
    go_wp2_with fail
    rcases hD : decode s with _ | m
    · refine (dec_none (by omega) hD).mono ?_
      rintro e w5 ⟨rfl, hF⟩
      have hF5 := hid ((hF1.out).trans hF)
      clear hF hD
      go_wp2_with (go_at_call 14; refine (fixed_walk _).mono ?_; rintro e w8 ⟨rfl, hF8⟩; have hF8 := hid hF8)
      go_ret
      exact ⟨rfl, hF5.out.trans hF8.out⟩
    · have hsd := decode_sound hD
      have hen := (decode_iff.1 hD).1
      refine (dec_some (by omega) hD).mono ?_
      rintro e w5 ⟨a5, l', hl', rfl, hci, hF⟩
      have hF5 := hid ((hF1.out).trans hF)
      have hM := hid (And.intro hl' (And.intro hci (And.intro hen (fun c hc => (hsd.2.2.2.1 c hc).1))))
      have hmm := hci.row.max
      clear hF hci hl' hsd hen hD
      go_wp2_with fail
      refine (encode_walk w5 _ _ _ l' hM.out.2.1).mono ?_
      rintro e w6 ⟨he, hF⟩
      rw [hM.out.1, hM.out.2.2.1] at he
      subst he
      have hF6 := hid hF
      clear hF
      go_wp2_with fail
      go_loopw [19] (fun iv wr => ∃ k : Nat, k ≤ m.length ∧ iv = .int .i64 k ∧ Fr [] w5 wr) (fun iv _ => m.length - (intOf iv).toNat)
      case atStart => exact ⟨0, Nat.zero_le _, rfl, hF6.out⟩
      case round =>
        obtain ⟨k, hk, rfl, hFr⟩ := hrel
        by_cases hlt : k < m.length
        · obtain ⟨bb, ob, rfl⟩ := hM.out.2.1.row.sm (by omega)
          obtain ⟨x, hx⟩ : ∃ x, cL.nth l' k = x := ⟨_, rfl⟩
          have hkl : k < l'.length := by rw [hM.out.2.1.len]; exact hlt
          obtain ⟨c0, c1, c2, c3, c4, c5, c6, c7, c8, c9⟩ := ch_cells (hM.out.2.1.row.fr0 hFr) k hlt x hx
          have hxm : x ∈ l' := by rw [← hx]; exact cL.mem_nth hkl
          have hcw := check_walk wr x.1 x.2 ((hM.out.2.1.one x hxm).1.fr0 hFr)
          rw [hM.out.2.2.2 x.1 (by rw [← hM.out.1]; exact List.mem_map_of_mem hxm)] at hcw
          have hcw := hid hcw
          have hFr := hid hFr
          clear hx hkl hxm
          go_wp2_with (go_at_call 11; refine hcw.out.mono ?_; rintro e w2 ⟨rfl, hF2⟩; have hF2 := hid hF2)
          go_roundw
          case rel => exact ⟨k + 1, by omega, by go_num, hFr.out.trans hF2.out⟩
          case measure => simp [intOf]; omega
        · have hFr := hid hFr
          have hss : (s.toList == s.toList) = true := by simp
          go_wp2_with (go_at_call 14; refine (fixed_walk _).mono ?_; rintro e w8 ⟨rfl, hF8⟩; have hF8 := hid hF8)
          go_ret
          exact ⟨rfl, ((hF5.out.trans hFr.out)).trans hF8.out⟩

theorem recordReturns_walk (w : World) (a : Option Addr) (n ca : Nat) (l : List (CV × TS)) (ha : ChArg w a n ca l) (s : ByteArray) (hs : s.size ≤ 140737488351232) (cut : Int) (hc1 : -9223372036854775808 ≤ cut) (hc2 : cut ≤ 9223372036854775807) :
    Calls Try.prog 6 #[.slice a n ca, .string s, .int .i64 cut] w fun e w' => e = .returned (.bool true) ∧ Fr [] w w' := returns_walk w a n ca l ha.ch s hs cut hc1 hc2
end Go.Proofs.Ytdobbmlaokolmaa
