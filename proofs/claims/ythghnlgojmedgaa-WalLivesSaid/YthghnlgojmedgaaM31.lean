/-
  Merged, in build order: WR WS.
-/
import Derived.OwnWalk
import Derived.Test.YthghnlgojmedgaaM28
import Derived.Test.YthghnlgojmedgaaM29
import Derived.Test.YthghnlgojmedgaaM30
/-
  The laws' helpers of layer 9: behind, told. Rows of texts that are read.
-/
namespace Go.Proofs.Ythghnlgojmedgaa
open Go.RowKit
set_option linter.unusedVariables false
set_option linter.unusedSimpArgs false

abbrev TxT (a : Option Addr) (c : Nat) (l : List ByteArray) : Thing := InT 1 a l.length c (strV l)
section
variable {W : Base} {w : World} {R : List Thing}
theorem St.weakAt (H : St W w R) (i : Nat) {A A' : Thing} (hi : R[i]? = some A) (hL : Loc A') (h : ∀ F G, A w F G → A' w F G) : St W w (R.set i A') := by
  refine H.weaken (by simp) (fun j B B' hB hB' => ?_)
  by_cases hj : i = j
  · subst hj
    rw [hi] at hB
    rw [List.getElem?_set_self (lt_of_get hi)] at hB'
    cases hB; cases hB'
    exact .inr ⟨hL, h⟩
  · rw [List.getElem?_set_ne hj, hB] at hB'
    exact .inl (Option.some.inj hB').symm
theorem St.wvTx (H : St W w R) (i : Nat) {a : Option Addr} {l : List ByteArray} (hl : l.length ≤ 65536) (hi : R[i]? = some (WvT 9 1 a l.length (strV l))) : St W w (R.set i (TxT a l.length l)) :=
  H.weakAt i hi (inferInstance : Loc (own (In1 _ _ _ _ _))) (fun F G ⟨h1, h2, h3⟩ => ⟨h1, ⟨h2, h3.toIn (Nat.le_refl _) (by unfold maxLen; omega), fun p hp => by
    rcases h3 with ⟨rfl, _⟩ | ⟨g, cur, rfl, hh, _⟩
    · cases hp
    · cases hp; exact lt_of_block hh⟩⟩)
theorem St.rowTx (H : St W w R) (i : Nat) {v : Value} {l : List ByteArray} (hi : R[i]? = some (RowT 9 1 v l.length (l.map Value.string))) : ∃ a c, v = .slice a l.length c ∧ St W w (R.set i (TxT a c l)) := by
  obtain ⟨a, c, rfl, hin⟩ := H.rowStr i hi
  refine ⟨a, c, rfl, H.weakAt i hi (inferInstance : Loc (own (In1 _ _ _ _ _))) (fun F G ⟨h1, h2, h3⟩ => ⟨h1, ⟨h2.trans ?_, ?_, fun p hp => ?_⟩⟩)⟩
  · rcases owns_one h3 with ⟨e, _⟩ | ⟨g, cap, e, _⟩
    · simp only [Value.slice.injEq] at e; rw [e.1]; rfl
    · simp only [Value.slice.injEq] at e; rw [e.1]; rfl
  · rcases owns_one h3 with ⟨e, hn, _⟩ | ⟨g, cap, e, hle, hmx⟩
    · simp only [Value.slice.injEq] at e
      obtain ⟨rfl, _, rfl⟩ := e
      exact hin
    · exact hin
  · rcases owns_one h3 with ⟨e, hn, _⟩ | ⟨g, cap, e, hle, hmx⟩
    · simp only [Value.slice.injEq] at e; rw [e.1] at hp; cases hp
    · simp only [Value.slice.injEq] at e
      refine owns_lt h3 _ ?_
      rw [hp]
      rw [hp] at e
      have := Option.some.inj e.1
      subst this
      simp [Value.ownBlock]

theorem behind_snap (w : World) (s t : ByteArray) (v : Value) :
    Calls Try.prog 38 #[.string s, v, .string t, .bool true] w fun e w' => e = .returned (.tuple #[.string t, .slice none 0 0]) ∧ w = w' := by
  go_enter Try.func38, Try.ntmps38
  go_wp2_with fail
  go_ret2
  exact ⟨rfl, rfl⟩
set_option maxHeartbeats 800000 in
theorem st_behind (H : St W w R) (s t : ByteArray) {a : Option Addr} {c : Nat} {l : List ByteArray} (hin : In w 1 a l.length c (strV l)) (hl : l.length ≤ 65536) :
    Calls Try.prog 38 #[.string s, .slice a l.length c, .string t, .bool false] w fun e w' => ∃ a' c', e = .returned (.tuple #[.string s, .slice a' (l ++ [t]).length c']) ∧ St W w' (R ++ [TxT a' c' (l ++ [t])]) := by
  obtain ⟨i0, hi0, hz0, hz1, hz2⟩ := info_parts info_string
  have HIN := hid (And.intro hi0 (And.intro hz0 (And.intro hz1 hz2)))
  have HE := H.empty
  have HA := hid (St.append HE (R.length + 0) (e := 9) (size := 1) (n := 0) (v := .slice (some ⟨w.heap.size, 0, none⟩) 0 0) (xs := []) (by rw [get_behind]; rfl))
  have HI := hid (hin.fr0 ((Fr.refl [] w).alloc (.cells #[] 9)))
  have HL := hid hl
  clear H HE hi0 hz0 hz1 hz2 hin hl
  obtain ⟨n, hn⟩ : ∃ n, l.length = n := ⟨_, rfl⟩
  rw [hn] at HI HL ⊢
  have HN := hid hn
  clear hn
  go_enter Try.func38, Try.ntmps38
  go_wp2_with (at_builtin; refine wpList_append_any rfl (.tmp 13) (.tmp 14) 22 rfl 9 i0 (.string ByteArray.empty) 1 16 Try.underlying22 HIN.out.1 HIN.out.2.1 HIN.out.2.2.1 HIN.out.2.2.2 rfl (by decide) w.heap.size 0 0 [] rfl HA.out.1 a n c (strV l) rfl HI.out (fun j _ => rfl) (by have := HL.out; unfold maxLen; omega) (by have := HL.out; omega) ?_)
  intro g cap' w1 ho hF hg
  have H1 := HA.out.2 (.slice (some ⟨g, 0, none⟩) n cap') w1 n ((List.range n).map (strV l)) ho (by simpa [Value.ownBlock] using hF) (by simpa [Value.ownBlock] using hg)
  rw [List.set_append_right _ _ (by omega), Nat.add_sub_cancel_left] at H1
  have hrow : (List.range n).map (strV l) = l.map Value.string := by
    rw [← HN.out, ← Nat.mul_one l.length, range_strs]
    unfold strs
    refine List.ext_getElem (by simp) fun j h1 h2 => ?_
    simp at h1 h2
    simp [strV, sAt, List.getD, h2]
  rw [hrow] at H1
  have HB := hid (St.append (H1.alloc_ (.cells #[.string t] 9)) (R.length + 0) (e := 9) (size := 1) (n := n) (v := .slice (some ⟨g, 0, none⟩) n cap') (xs := l.map Value.string) (by rw [get_behind]; rfl))
  clear H1 ho hF hg HI HA hrow
  go_wp2_with (at_builtin; refine wpList_append_blk rfl (.tmp 15) (.tmp 17) 22 rfl 9 i0 (.string ByteArray.empty) 1 16 Try.underlying22 HIN.out.1 HIN.out.2.1 HIN.out.2.2.1 HIN.out.2.2.2 rfl (by decide) (.slice (some ⟨g, 0, none⟩) n cap') n (l.map Value.string) rfl HB.out.1 ⟨w1.heap.size, 0, none⟩ 1 1 [.string t] rfl rfl (news_alloc w1 [.string t] 9) (by intro u hu; simp at hu; subst hu; rfl) (by have := HL.out; unfold maxLen; omega) (by have := HL.out; omega) ?_)
  intro v' w9 ho hF hb hnn
  have H9 := HB.out.2 v' w9 (n + 1) (l.map Value.string ++ [.string t]) ho (by simpa using hF) (by simpa using hb)
  rw [List.set_append_right _ _ (by omega), Nat.add_sub_cancel_left] at H9
  rw [show n + 1 = (l ++ [t]).length by rw [List.length_append, HN.out]; rfl, show l.map Value.string ++ [.string t] = (l ++ [t]).map Value.string by simp] at H9
  obtain ⟨a', c', rfl, H9⟩ := H9.rowTx (R.length + 0) (v := v') (l := l ++ [t]) (by rw [get_behind]; rfl)
  rw [List.set_append_right _ _ (by omega), Nat.add_sub_cancel_left] at H9
  have H9 := hid H9
  clear HB ho hF hb hnn HL
  go_wp2_with fail
  go_ret2
  exact ⟨a', c', rfl, H9.out⟩

theorem st_told (H : St W w R) (i : Nat) {D : Nat} {d : DS} {h : WH} {s : ByteArray} {l : List ByteArray} (hi : R[i]? = some (DkT D d)) (L : Lay9 d h s l) (hd : d.dead = false) :
    Calls Try.prog 41 #[.pointer (some ⟨D, 0, none⟩)] w fun e w' => ∃ p, e = .returned (.tuple #[.string s, .slice p l.length l.length, .bool true]) ∧ St W w' (R ++ [TxT p l.length l]) := by
  have HO := hid (st_lopen (x := ⟨h, l.length, false⟩) H i hi L.wf hd L.fit L.cnt)
  have HL := hid (L.log hd).log.len.1
  clear H
  go_enter Try.func41, Try.ntmps41
  go_wp2_with fail
  refine HO.out.mono ?_
  rintro e w1 ⟨B, p, rfl, H⟩
  have HH := hid H
  clear H HO
  go_wp2_with fail
  go_ret3
  have h9 := HH.out.wvTx (R.length + 0) (a := p) (l := l) HL.out (by rw [get_behind]; rfl)
  rw [List.set_append_right _ _ (by omega), Nat.add_sub_cancel_left] at h9
  refine ⟨p, rfl, ?_⟩
  have h2 : St W w1 ((R ++ [TxT p l.length l]) ++ [WlT B D ⟨h, l.length, false⟩]) := by rw [List.append_assoc]; exact h9
  exact h2.drop
end
end Go.Proofs.Ythghnlgojmedgaa

/-
  The laws' helper of layer 9: cut.
-/
namespace Go.Proofs.Ythghnlgojmedgaa
open Go.RowKit
set_option linter.unusedVariables false
set_option linter.unusedSimpArgs false

/-- What is known behind a cut call: q raw writes of mm were done; what is told then. -/
structure CutI (x2 : WS) (d2 c : DS) (xc : WS) (s t : ByteArray) (l m : List ByteArray) (ts : ByteArray) (tl : List ByteArray) (q mm : Nat) (pb : Int) : Prop where
  xd : x2.dead = true
  dd : d2.dead = true
  i : LgI x2 d2
  raw : d2.raw.length = q
  q600 : q ≤ 600
  m600 : mm ≤ 600
  m1 : 1 ≤ mm
  lay : ∃ h1, Lay9 d2 h1 ts tl
  say : (q + 1 = mm ∧ pb = 128) ∧ ts = t ∧ tl = m ∨ ¬ (q + 1 = mm ∧ pb = 128) ∧ ts = s ∧ tl = l
  lc : Lg9 xc c s l
  cr : c.raw.length = 0
section
variable {W : Base} {w : World}
set_option maxHeartbeats 800000 in
set_option maxRecDepth 100000 in
theorem st_cutS {D C B : Nat} {d2 c : DS} {x2 xc : WS} {al am : Option Addr} {cl cm : Nat} {s t ts : ByteArray} {l m tl : List ByteArray} {q mm : Nat} {pb : Int} (H : St W w [DkT D d2, DkT C c, WlT B D x2, TxT al cl l, TxT am cm m]) (hI : CutI x2 d2 c xc s t l m ts tl q mm pb)
    (ht : t.size ≤ 140737488355328) (hm : m.length = 0) (hdone : (xc.snapshot c t).1 = 0 ∧ (xc.snapshot c t).2.2.raw.length = mm) :
    Calls Try.prog 40 #[.pointer (some ⟨D, 0, none⟩), .pointer (some ⟨C, 0, none⟩), .pointer (some ⟨B, 0, none⟩), .string s, .slice al l.length cl, .string t, .slice am m.length cm, .int .i64 pb] w fun e w' => e = .returned (.bool true) ∧ St W w' [DkT D d2.revive] := by
  have hb0 : ((m.length : Int) == 0) = true := by rw [beq_iff_eq]; omega
  have HT := hid (And.intro ht hm)
  clear ht hm
  have hb := H.in_ 4 rfl
  have HL := hid hI
  obtain ⟨h1, hlay⟩ := hI.lay
  have HLY := hid hlay.revive
  obtain ⟨F0, hdk⟩ := H.dk 0 rfl
  have hdd := disk_dead w F0 D d2 hdk
  rw [hI.dd] at hdd
  have HDD := hid hdd
  have HH := hid H
  clear H hI hdd hdk hb hlay
  go_enter Try.func40, Try.ntmps40
  go_wp2_with fail
  refine HDD.out.mono ?_
  rintro e w1 ⟨rfl, rfl⟩
  have hwd := st_wdead HH.out 2 (B := B) (D := D) (x := x2) rfl
  rw [HL.out.xd] at hwd
  have HWD := hid hwd
  clear hwd HDD
  go_wp2_with fail
  refine HWD.out.mono ?_
  rintro e w2 ⟨rfl, H⟩
  have hap := st_wappend H 2 0 (B := B) (D := D) (x := x2) (d := d2) rfl rfl (by decide) HL.out.i ⟨#[120]⟩ (by decide) (by rw [HL.out.raw]; have := HL.out.q600; omega)
  rw [append_dead HL.out.xd] at hap
  have HAP := hid hap
  clear hap H HWD HH
  go_wp2_with fail
  refine HAP.out.mono ?_
  rintro e w3 ⟨rfl, H⟩
  try simp only [List.nil_append, List.cons_append, List.set_cons_zero, List.set_cons_succ] at H
  have hsn := st_wsnapshot H 2 0 (B := B) (D := D) (x := x2) (d := d2) rfl rfl (by decide) HL.out.i ⟨#[]⟩ (by decide) (by rw [HL.out.raw]; have := HL.out.q600; omega)
  rw [snapshot_dead HL.out.xd] at hsn
  have HSN := hid hsn
  clear hsn H HAP
  go_wp2_with fail
  refine HSN.out.mono ?_
  rintro e w4 ⟨rfl, H⟩
  try simp only [List.nil_append, List.cons_append, List.set_cons_zero, List.set_cons_succ] at H
  have hraw := st_raw H 0 (D := D) (d := d2) rfl (by rw [HL.out.raw]; have := HL.out.q600; omega)
  rw [HL.out.raw] at hraw
  have HRAW := hid hraw
  clear hraw H HSN
  go_wp2_with fail
  refine HRAW.out.mono ?_
  rintro e w5 ⟨a5, rfl, H⟩
  have H : St W w5 [DkT D d2, DkT C c, WlT B D x2, TxT al cl l, TxT (am) cm m, InT 2 a5 q q (wrV d2.raw)] := by simpa using H
  have HRV := hid (st_revive H 0 rfl)
  clear H HRAW
  go_wp2_with fail
  refine HRV.out.mono ?_
  rintro e w6 ⟨rfl, H⟩
  try simp only [List.nil_append, List.cons_append, List.set_cons_zero, List.set_cons_succ] at H
  have HTD := hid (st_told H 0 rfl HLY.out rfl)
  clear H HRV
  go_wp2_with fail
  refine HTD.out.mono ?_
  rintro e w7 ⟨p7, rfl, H⟩
  have H : St W w7 [DkT D d2.revive, DkT C c, WlT B D x2, TxT al cl l, TxT (am) cm m, InT 2 a5 q q (wrV d2.raw), TxT p7 tl.length tl] := by simpa using H
  have HO := hid (st_lopen (x := xc) H 1 rfl HL.out.lc.log.wf HL.out.lc.log.on HL.out.lc.log.fit HL.out.lc.log.cnt)
  clear H HTD
  go_wp2_with fail
  refine HO.out.mono ?_
  rintro e w8 ⟨B8, p8, rfl, H⟩
  rw [HL.out.lc.log.eq] at H
  have H : St W w8 [DkT D d2.revive, DkT C c, WlT B D x2, TxT al cl l, TxT (am) cm m, InT 2 a5 q q (wrV d2.raw), TxT p7 tl.length tl, WvT 9 1 p8 l.length (strV l), WlT B8 C xc] := by simpa using H
  clear HO
  have hcall := st_wsnapshot H 8 1 (B := B8) (D := C) (x := xc) (d := c) rfl rfl (by decide) HL.out.lc.log.i t HT.out.1 (by rw [HL.out.cr]; decide)
  have hcr := hdone.2
  obtain ⟨c9, hc9⟩ : ∃ c9, (xc.snapshot c t).2.2 = c9 := ⟨_, rfl⟩
  obtain ⟨x9, hx9⟩ : ∃ x9, (xc.snapshot c t).2.1 = x9 := ⟨_, rfl⟩
  rw [hdone.1, hc9, hx9] at hcall
  rw [hc9] at hcr
  have HCALL := hid hcall
  have HCR := hid hcr
  clear hcall hdone hc9 hx9 H hcr
  go_wp2_with fail
  refine HCALL.out.mono ?_
  rintro e w9 ⟨rfl, H⟩
  try simp only [List.nil_append, List.cons_append, List.set_cons_zero, List.set_cons_succ] at H
  have hraw := st_raw H 1 (D := C) (d := c9) rfl (by rw [HCR.out]; have := HL.out.m600; omega)
  rw [HCR.out] at hraw
  have HRAW := hid hraw
  clear hraw H HCALL
  go_wp2_with fail
  refine HRAW.out.mono ?_
  rintro e w10 ⟨a10, rfl, H⟩
  have H : St W w10 [DkT D d2.revive, DkT C c9, WlT B D x2, TxT al cl l, TxT (am) cm m, InT 2 a5 q q (wrV d2.raw), TxT p7 tl.length tl, WvT 9 1 p8 l.length (strV l), WlT B8 C x9, InT 2 a10 mm mm (wrV c9.raw)] := by simpa using H
  have hw1 : IntKind.i64.wrap ((mm : Int) - 1) = (mm : Int) - 1 := IntWalk.i64_in _ (by have := HL.out.m600; omega)
  clear HRAW
  rcases HL.out.say with ⟨⟨hq, hpb⟩, hts, rfl⟩ | ⟨hno, hts, rfl⟩
  · have hb1 : ((q : Int) == (mm : Int) - 1) = true := by rw [beq_iff_eq]; omega
    subst hpb
    have hbe : (ts.toList == t.toList) = true := by rw [hts]; exact beq_self_eq_true _
    clear hts
    have HSM := hid (st_same H (H.in_ 6 rfl) (H.in_ 4 rfl))
    clear hq H
    go_wp2_with fail
    refine HSM.out.mono ?_
    rintro e w11 ⟨rfl, H⟩
    have HE := hid (H.take 1)
    clear H HSM
    go_wp2_with fail
    go_ret
    exact ⟨by simp, HE.out⟩
  · have HSM := hid (st_same H (H.in_ 6 rfl) (H.in_ 3 rfl))
    have hbe : (ts.toList == s.toList) = true := by rw [hts]; exact beq_self_eq_true _
    clear hts
    by_cases hq : q + 1 = mm
    · have hb1 : ((q : Int) == (mm : Int) - 1) = true := by rw [beq_iff_eq]; omega
      have hb2 : (pb == 128) = false := by rw [beq_eq_false_iff_ne]; exact fun h => hno ⟨hq, h⟩
      clear hq hno H
      go_wp2_with fail
      refine HSM.out.mono ?_
      rintro e w11 ⟨rfl, H⟩
      have HE := hid (H.take 1)
      clear H HSM
      go_wp2_with fail
      go_ret
      exact ⟨by simp, HE.out⟩
    · have hb1 : ((q : Int) == (mm : Int) - 1) = false := by rw [beq_eq_false_iff_ne]; omega
      clear hq hno H
      go_wp2_with fail
      refine HSM.out.mono ?_
      rintro e w11 ⟨rfl, H⟩
      have HE := hid (H.take 1)
      clear H HSM
      go_wp2_with fail
      go_ret
      exact ⟨by simp, HE.out⟩
set_option maxHeartbeats 800000 in
set_option maxRecDepth 100000 in
theorem st_cutA {D C B : Nat} {d2 c : DS} {x2 xc : WS} {al am : Option Addr} {cl cm : Nat} {s t ts r : ByteArray} {l m tl : List ByteArray} {q mm : Nat} {pb : Int} (H : St W w [DkT D d2, DkT C c, WlT B D x2, TxT al cl l, TxT am cm m]) (hI : CutI x2 d2 c xc s t l m ts tl q mm pb)
    (ht : r.size ≤ 140737488355328) (n : Nat) (hm : m.length = n + 1) (hn : n ≤ 65536) (hlast : strV m n = .string r) (hdone : (xc.append c r).1 = 0 ∧ (xc.append c r).2.2.raw.length = mm) :
    Calls Try.prog 40 #[.pointer (some ⟨D, 0, none⟩), .pointer (some ⟨C, 0, none⟩), .pointer (some ⟨B, 0, none⟩), .string s, .slice al l.length cl, .string t, .slice am m.length cm, .int .i64 pb] w fun e w' => e = .returned (.bool true) ∧ St W w' [DkT D d2.revive] := by
  obtain ⟨bm, om, rfl⟩ := (H.in_ 4 rfl).sm (by omega)
  have HT := hid (And.intro ht (And.intro hm (And.intro hn hlast)))
  clear ht hm hn hlast
  have hb := H.in_ 4 rfl
  have HL := hid hI
  obtain ⟨h1, hlay⟩ := hI.lay
  have HLY := hid hlay.revive
  obtain ⟨F0, hdk⟩ := H.dk 0 rfl
  have hdd := disk_dead w F0 D d2 hdk
  rw [hI.dd] at hdd
  have HDD := hid hdd
  have HH := hid H
  clear H hI hdd hdk hb hlay
  go_enter Try.func40, Try.ntmps40
  go_wp2_with fail
  refine HDD.out.mono ?_
  rintro e w1 ⟨rfl, rfl⟩
  have hwd := st_wdead HH.out 2 (B := B) (D := D) (x := x2) rfl
  rw [HL.out.xd] at hwd
  have HWD := hid hwd
  clear hwd HDD
  go_wp2_with fail
  refine HWD.out.mono ?_
  rintro e w2 ⟨rfl, H⟩
  have hap := st_wappend H 2 0 (B := B) (D := D) (x := x2) (d := d2) rfl rfl (by decide) HL.out.i ⟨#[120]⟩ (by decide) (by rw [HL.out.raw]; have := HL.out.q600; omega)
  rw [append_dead HL.out.xd] at hap
  have HAP := hid hap
  clear hap H HWD HH
  go_wp2_with fail
  refine HAP.out.mono ?_
  rintro e w3 ⟨rfl, H⟩
  try simp only [List.nil_append, List.cons_append, List.set_cons_zero, List.set_cons_succ] at H
  have hsn := st_wsnapshot H 2 0 (B := B) (D := D) (x := x2) (d := d2) rfl rfl (by decide) HL.out.i ⟨#[]⟩ (by decide) (by rw [HL.out.raw]; have := HL.out.q600; omega)
  rw [snapshot_dead HL.out.xd] at hsn
  have HSN := hid hsn
  clear hsn H HAP
  go_wp2_with fail
  refine HSN.out.mono ?_
  rintro e w4 ⟨rfl, H⟩
  try simp only [List.nil_append, List.cons_append, List.set_cons_zero, List.set_cons_succ] at H
  have hraw := st_raw H 0 (D := D) (d := d2) rfl (by rw [HL.out.raw]; have := HL.out.q600; omega)
  rw [HL.out.raw] at hraw
  have HRAW := hid hraw
  clear hraw H HSN
  go_wp2_with fail
  refine HRAW.out.mono ?_
  rintro e w5 ⟨a5, rfl, H⟩
  have H : St W w5 [DkT D d2, DkT C c, WlT B D x2, TxT al cl l, TxT (some ⟨bm, om, none⟩) cm m, InT 2 a5 q q (wrV d2.raw)] := by simpa using H
  have HRV := hid (st_revive H 0 rfl)
  clear H HRAW
  go_wp2_with fail
  refine HRV.out.mono ?_
  rintro e w6 ⟨rfl, H⟩
  try simp only [List.nil_append, List.cons_append, List.set_cons_zero, List.set_cons_succ] at H
  have HTD := hid (st_told H 0 rfl HLY.out rfl)
  clear H HRV
  go_wp2_with fail
  refine HTD.out.mono ?_
  rintro e w7 ⟨p7, rfl, H⟩
  have H : St W w7 [DkT D d2.revive, DkT C c, WlT B D x2, TxT al cl l, TxT (some ⟨bm, om, none⟩) cm m, InT 2 a5 q q (wrV d2.raw), TxT p7 tl.length tl] := by simpa using H
  have HO := hid (st_lopen (x := xc) H 1 rfl HL.out.lc.log.wf HL.out.lc.log.on HL.out.lc.log.fit HL.out.lc.log.cnt)
  clear H HTD
  go_wp2_with fail
  refine HO.out.mono ?_
  rintro e w8 ⟨B8, p8, rfl, H⟩
  rw [HL.out.lc.log.eq] at H
  have H : St W w8 [DkT D d2.revive, DkT C c, WlT B D x2, TxT al cl l, TxT (some ⟨bm, om, none⟩) cm m, InT 2 a5 q q (wrV d2.raw), TxT p7 tl.length tl, WvT 9 1 p8 l.length (strV l), WlT B8 C xc] := by simpa using H
  clear HO
  have hcell := (H.in_ 4 rfl).cell bm om rfl n (by have := HT.out.2.1; omega)
  rw [HT.out.2.2.2] at hcell
  have hw0 : IntKind.i64.wrap ((m.length : Int) - 1) = (n : Int) := by rw [IntWalk.i64_in _ (by have := HT.out.2.1; have := HT.out.2.2.1; omega)]; have := HT.out.2.1; omega
  have hb0 : ((m.length : Int) == 0) = false := by rw [beq_eq_false_iff_ne]; have := HT.out.2.1; omega
  have hnI : (n : Int) < m.length := by have := HT.out.2.1; omega
  have hcall := st_wappend H 8 1 (B := B8) (D := C) (x := xc) (d := c) rfl rfl (by decide) HL.out.lc.log.i r HT.out.1 (by rw [HL.out.cr]; decide)
  go_wp2_with fail
  clear hw0 hb0 hnI hcell
  have hcr := hdone.2
  obtain ⟨c9, hc9⟩ : ∃ c9, (xc.append c r).2.2 = c9 := ⟨_, rfl⟩
  obtain ⟨x9, hx9⟩ : ∃ x9, (xc.append c r).2.1 = x9 := ⟨_, rfl⟩
  rw [hdone.1, hc9, hx9] at hcall
  rw [hc9] at hcr
  have HCALL := hid hcall
  have HCR := hid hcr
  clear hcall hdone hc9 hx9 H hcr
  skip
  refine HCALL.out.mono ?_
  rintro e w9 ⟨rfl, H⟩
  try simp only [List.nil_append, List.cons_append, List.set_cons_zero, List.set_cons_succ] at H
  have hraw := st_raw H 1 (D := C) (d := c9) rfl (by rw [HCR.out]; have := HL.out.m600; omega)
  rw [HCR.out] at hraw
  have HRAW := hid hraw
  clear hraw H HCALL
  go_wp2_with fail
  refine HRAW.out.mono ?_
  rintro e w10 ⟨a10, rfl, H⟩
  have H : St W w10 [DkT D d2.revive, DkT C c9, WlT B D x2, TxT al cl l, TxT (some ⟨bm, om, none⟩) cm m, InT 2 a5 q q (wrV d2.raw), TxT p7 tl.length tl, WvT 9 1 p8 l.length (strV l), WlT B8 C x9, InT 2 a10 mm mm (wrV c9.raw)] := by simpa using H
  have hw1 : IntKind.i64.wrap ((mm : Int) - 1) = (mm : Int) - 1 := IntWalk.i64_in _ (by have := HL.out.m600; omega)
  clear HRAW
  rcases HL.out.say with ⟨⟨hq, hpb⟩, hts, rfl⟩ | ⟨hno, hts, rfl⟩
  · have hb1 : ((q : Int) == (mm : Int) - 1) = true := by rw [beq_iff_eq]; omega
    subst hpb
    have hbe : (ts.toList == t.toList) = true := by rw [hts]; exact beq_self_eq_true _
    clear hts
    have HSM := hid (st_same H (H.in_ 6 rfl) (H.in_ 4 rfl))
    clear hq H
    go_wp2_with fail
    refine HSM.out.mono ?_
    rintro e w11 ⟨rfl, H⟩
    have HE := hid (H.take 1)
    clear H HSM
    go_wp2_with fail
    go_ret
    exact ⟨by simp, HE.out⟩
  · have HSM := hid (st_same H (H.in_ 6 rfl) (H.in_ 3 rfl))
    have hbe : (ts.toList == s.toList) = true := by rw [hts]; exact beq_self_eq_true _
    clear hts
    by_cases hq : q + 1 = mm
    · have hb1 : ((q : Int) == (mm : Int) - 1) = true := by rw [beq_iff_eq]; omega
      have hb2 : (pb == 128) = false := by rw [beq_eq_false_iff_ne]; exact fun h => hno ⟨hq, h⟩
      clear hq hno H
      go_wp2_with fail
      refine HSM.out.mono ?_
      rintro e w11 ⟨rfl, H⟩
      have HE := hid (H.take 1)
      clear H HSM
      go_wp2_with fail
      go_ret
      exact ⟨by simp, HE.out⟩
    · have hb1 : ((q : Int) == (mm : Int) - 1) = false := by rw [beq_eq_false_iff_ne]; omega
      clear hq hno H
      go_wp2_with fail
      refine HSM.out.mono ?_
      rintro e w11 ⟨rfl, H⟩
      have HE := hid (H.take 1)
      clear H HSM
      go_wp2_with fail
      go_ret
      exact ⟨by simp, HE.out⟩
end
end Go.Proofs.Ythghnlgojmedgaa
