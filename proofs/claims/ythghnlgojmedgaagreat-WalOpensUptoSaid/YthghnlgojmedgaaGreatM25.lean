/-
  Merged, in build order: WC Wv Pack WD Lex IsB.
-/
import Derived.Test.YthghnlgojmedgaaGreatM23
import Derived.Test.YthghnlgojmedgaaGreatM24
import Derived.Test.YthghnlgojmedgaaGreatM12
import Derived.Test.YthghnlgojmedgaaGreatM5
import Derived.Test.YthghnlgojmedgaaGreatM3
import Derived.Test.YthghnlgojmedgaaGreatM6
/-
  wal: bytes.
-/
namespace Go.Proofs.YthghnlgojmedgaaGreat
open Go.RowKit
set_option linter.unusedVariables false
set_option linter.unusedSimpArgs false

section
variable {W : Base} {w : World} {R : List Thing}

theorem st_bwriteE {A : List Thing} {b : Nat} {l : List UInt8} (H : St W w (A ++ [BdT b l])) (s : ByteArray) (hlen : l.length + s.size ≤ 140737488355328) :
    Calls Tryz.prog 75 #[.pointer (some ⟨b, 0, none⟩), .string s] w fun e w' => e = .returned (.tuple #[.int .i64 s.size, .nilIface]) ∧ St W w' (A ++ [BdT b (l ++ bl s)]) := by
  refine (st_bwrite H (A.length + 0) s (b := b) (l := l) (by rw [get_behind]; rfl) hlen).mono ?_
  rintro e w' ⟨rfl, H⟩
  rw [List.set_append_right _ _ (by omega), Nat.add_sub_cancel_left] at H
  exact ⟨rfl, H⟩

/-- String of a builder that nothing was written to. -/
theorem bd_string0 (b : Nat) (p : Value) (w : World) (hb : w.heap[b]? = some (.cells #[p, .slice none 0 0] 116 (0, 0))) :
    Calls Tryz.prog 76 #[.pointer (some ⟨b, 0, none⟩)] w fun e w' => e = .returned (.string .empty) ∧ Fr [] w w' := by
  have c1 : w.drew.cell? ⟨b, 1, none⟩ = some (.slice none 0 0) := cell_blk (blk_drew hb) rfl
  have hSD : (Builtin.unsafeSliceData_ #[71] 133 #[.slice none 0 0]).run Tryz.prog w.drew = .ok (.pointer none) w.drew := Lib.run_unsafeSliceData_nil _ _ _ _ _
  have hUS : (Builtin.unsafeString_ #[133, 3] 9 #[.pointer none, .int .i64 0]).run Tryz.prog w.drew = .ok (.string .empty) w.drew := Lib.run_unsafeString_none _ _ _ _ _
  have hF := hid ((Fr.refl [] w).drew)
  clear hb
  have mixed : Tryz.prog.follows .mixedOrders = true := by kernel_rfl
  go_enter Tryz.func76, Tryz.ntmps76
  go_wp2
  go_region_o
  all_goals (go_wp2; go_ret; exact ⟨rfl, hF.out⟩)

theorem hTake_str (ss : List ByteArray) (half m n : Nat) (h : n ≤ m) : (⟨(hTake ss half m).toArray⟩ : ByteArray).extract 0 n = ⟨(hTake ss half n).toArray⟩ := by
  apply bl_inj
  rw [extract_bl, bl_mk, bl_mk, List.drop_zero, hTake_take _ _ h]

theorem wv0 : wrap64 (2 + wrap64 ((wrap64 0).tdiv 128)) = 2 := by
  rw [IntWalk.wrap64_in 0 (by decide), show Int.tdiv 0 128 = 0 from rfl, IntWalk.wrap64_in 0 (by decide), IntWalk.wrap64_in (2 + 0) (by decide)]; rfl
theorem wv1 (m : Nat) (h : m ≤ 512) : wrap64 (2 + wrap64 ((wrap64 ((m : Int) * 128)).tdiv 128)) = 2 + (m : Int) := by
  have z : (0 : Int) ≤ (m : Int) * 128 := by omega
  rw [IntWalk.wrap64_in ((m : Int) * 128) (by omega), Int.tdiv_eq_ediv_of_nonneg z, Int.mul_ediv_cancel (m : Int) (show (128 : Int) ≠ 0 by decide), IntWalk.wrap64_in (m : Int) (by omega), IntWalk.wrap64_in (2 + (m : Int)) (by omega)]

set_option maxHeartbeats 1600000 in
set_option maxRecDepth 100000 in
theorem st_wbytes (H : St W w R) (i : Nat) {D : Nat} {d : DS} (hi : R[i]? = some (DkT D d)) (hw : d.wf) (hd : d.dead = false) (hf : roomN d.sec.length ≠ 0) (half n : Nat) (hh : half ≤ 1) (hn : n ≤ roomN d.sec.length) :
    Calls Tryz.prog 65 #[.pointer (some ⟨D, 0, none⟩), .int .i64 half, .int .i64 n] w fun e w' => e = .returned (.string ⟨(hTake d.sec half n).toArray⟩) ∧ St W w' R := by
  obtain ⟨k1, k2, k3, k4⟩ := roomN_ok hf
  have hil := lt_of_get hi
  obtain ⟨m, hm⟩ : ∃ m, d.sec.length / 2 - 1 = m := ⟨_, rfl⟩
  rw [hm] at k4
  have hm1 : m ≤ 512 := by omega
  have hdk : ∀ w', St W w' R → ∃ F, Dk w' F D d := fun w' h => h.dk i hi
  have HRM := hid (show ∀ w', St W w' R → Calls Tryz.prog 23 #[.pointer (some ⟨D, 0, none⟩)] w' fun e w'' => e = .returned (.int .i64 (m * 128 : Nat)) ∧ w' = w'' from fun w' h => by
    obtain ⟨F, hF⟩ := hdk w' h
    rw [← k4]
    exact wal_room w' F D d hF hw)
  have HRD := hid (show ∀ w', St W w' R → ∀ q : Nat, q < d.sec.length → Calls Tryz.prog 63 #[.pointer (some ⟨D, 0, none⟩), .int .i64 q] w' fun e w'' => e = .returned (.tuple #[.string (sAt d.sec q), .int .i64 0]) ∧ w' = w'' from fun w' h q hq => by
    obtain ⟨F, hF⟩ := hdk w' h
    exact disk_read_yes w' F D d q hF hw hd hq)
  have HSZ := hid hw.sz
  have HLEN := hid (And.intro k1 (And.intro k2 (And.intro k3 hm)))
  have hn' : n ≤ m * 128 := by omega
  clear hdk hw hd hn hf k1 k2 k3 k4 hm
  obtain ⟨c, hc⟩ : ∃ c, 2 + half * m = c := ⟨_, rfl⟩
  have hc1 : c ≤ 2 + m := by rw [← hc]; rcases (show half = 0 ∨ half = 1 by omega) with rfl | rfl <;> omega
  have hb2 : c + m ≤ d.sec.length := by
    have := HLEN.out.2.2.2
    have := HLEN.out.1
    omega
  have hc2 : wrap64 (2 + wrap64 ((wrap64 ((half : Int) * ((m : Int) * 128))).tdiv 128)) = (c : Int) := by
    rw [← hc]
    rcases (show half = 0 ∨ half = 1 by omega) with rfl | rfl
    · rw [show ((0 : Nat) : Int) * ((m : Int) * 128) = 0 by omega, wv0]; omega
    · rw [show ((1 : Nat) : Int) * ((m : Int) * 128) = (m : Int) * 128 by omega, wv1 m hm1]; omega
  have HC := hid (And.intro hc (And.intro hc1 hc2))
  clear hc hc1 hc2
  by_cases h0 : n = 0
  · subst h0
    have HB := hid (H.alloc (.cells #[.pointer none, .slice none 0 0] 116))
    have HH := hid H
    clear H
    go_enter Tryz.func65, Tryz.ntmps65
    go_wp2_with fail
    refine (HRM.out _ (HH.out.alloc_ _)).mono ?_
    rintro e w1 ⟨rfl, rfl⟩
    go_upto_region 3 with (fail)
    go_cut [8, 9] from 12 (fun s s9 wx => s = .int .i64 (c : Nat) ∧ s9 = .int .i64 0 ∧ wx = (w.alloc (.cells #[.pointer none, .slice none 0 0] 116)))
    case first =>
      go_wp2_with fail
      go_meet
      exact ⟨congrArg (Value.int .i64) HC.out.2.2, rfl, rfl⟩
    obtain ⟨rfl, rfl, rfl⟩ := hcut
    go_wp2_with fail
    go_loopw [9] (fun iv wr => iv = .int .i64 0 ∧ wr = (w.alloc (.cells #[.pointer none, .slice none 0 0] 116))) (fun iv _ => 0)
    case atStart => exact ⟨rfl, rfl⟩
    case round =>
      obtain ⟨rfl, rfl⟩ := hrel
      go_wp2_with fail
      refine (bd_string0 w.heap.size _ _ (blk_alloc_at _ _ _ rfl)).mono ?_
      rintro e w2 ⟨rfl, hF⟩
      have HX := hid ((HH.out.alloc_ _).same hF)
      clear hF HB
      go_wp2_with fail
      go_ret
      exact ⟨rfl, HX.out⟩
  · have HB := hid H.builder
    have HH := hid H
    have hpos : 0 < n := by omega
    clear H h0
    go_enter Tryz.func65, Tryz.ntmps65
    go_wp2_with fail
    refine (HRM.out _ (HH.out.alloc_ _)).mono ?_
    rintro e w1 ⟨rfl, rfl⟩
    go_upto_region 3 with (fail)
    go_cut [8, 9] from 12 (fun s s9 wx => s = .int .i64 (c : Nat) ∧ s9 = .int .i64 0 ∧ wx = (w.alloc (.cells #[.pointer none, .slice none 0 0] 116)))
    case first =>
      go_wp2_with fail
      go_meet
      exact ⟨congrArg (Value.int .i64) HC.out.2.2, rfl, rfl⟩
    obtain ⟨rfl, rfl, rfl⟩ := hcut
    go_wp2_with fail
    go_loopw [9] (fun iv wr => ∃ q : Nat, 128 * q < n + 128 ∧ iv = .int .i64 q ∧ St W wr (R ++ [BdT w.heap.size (hTake d.sec half (128 * q))])) (fun iv _ => n - 128 * (intOf iv).toNat)
    case atStart => exact ⟨0, by omega, rfl, HB.out⟩
    case round =>
      obtain ⟨q, hq, rfl, hS⟩ := hrel
      have HS := hid hS
      have HD := hid (HRD.out wr hS.drop (c + q))
      clear hS
      by_cases hlt : 128 * q < n
      · have hlt' : (q : Int) * 128 < n := by omega
        have hqm : q < m := by omega
        have e1 : ((c + q : Nat) : Int) = (c : Int) + q := by push_cast; rfl
        have w1 : IntKind.i64.wrap ((c : Int) + q) = (c : Int) + q := IntWalk.i64_in _ (by have := HLEN.out.2.2.1; omega)
        have HD2 := HD.out (by omega)
        rw [e1] at HD2
        have HD3 := hid HD2
        clear HD2
        have hsz := HSZ.out (c + q) (by omega)
        have hTk := hTake_sector d.sec half q (by rw [HLEN.out.2.2.2, HC.out.1]; exact hsz)
        rw [HLEN.out.2.2.2, HC.out.1] at hTk
        have HT := hid (And.intro hsz hTk)
        clear hsz hTk HD HB
        go_wp2_with fail
        refine HD3.out.mono ?_
        rintro e w2 ⟨rfl, rfl⟩
        go_wp2_with fail
        refine (st_bwriteE HS.out (sAt d.sec (c + q)) (by rw [hTake_len, HT.out.1]; omega)).mono ?_
        rintro e w3 ⟨rfl, hS3⟩
        rw [← HT.out.2] at hS3
        have HS3 := hid hS3
        clear hS3
        go_wp2_with fail
        go_roundw
        case rel => exact ⟨q + 1, by omega, by go_num, HS3.out⟩
        case measure => simp [intOf]; omega
      · have hlt' : ¬ (q : Int) * 128 < n := by omega
        have hne : hTake d.sec half (128 * q) ≠ [] := by
          intro h
          have := congrArg List.length h
          rw [hTake_len] at this
          simp at this
          omega
        have HG := hid (st_bstring HS.out (R.length + 0) (b := w.heap.size) (l := hTake d.sec half (128 * q)) (by rw [get_behind]; rfl) hne)
        have hle : n ≤ 128 * q := by omega
        have hsl : (⟨(hTake d.sec half (128 * q)).toArray⟩ : ByteArray).size = 128 * q := by rw [← bl_len, bl_mk, hTake_len]
        have hst := hTake_str d.sec half (128 * q) n hle
        obtain ⟨t, ht⟩ : ∃ t : ByteArray, ⟨(hTake d.sec half (128 * q)).toArray⟩ = t := ⟨_, rfl⟩
        rw [ht] at HG hsl hst
        have g1 : (n : Int) ≤ t.size := by omega
        have hb : decide ((q : Int) * 128 < n) = false := decide_eq_false hlt'
        have HST := hid hst
        clear hst hne HD HB hsl ht hle
        go_wp2_with fail
        refine HG.out.mono ?_
        rintro e w2 ⟨rfl, hS2⟩
        rw [List.set_append_right _ _ (by omega), Nat.add_sub_cancel_left] at hS2
        have HS2 := hid hS2.drop
        clear hS2
        go_wp2_with fail
        go_ret
        exact ⟨ret_str HST.out, HS2.out⟩
end
end Go.Proofs.YthghnlgojmedgaaGreat

/-
  A row of the call's own that is written into, with what it holds; less is said of things; a block is let go. Of no program.
-/
namespace Go.Proofs.YthghnlgojmedgaaGreat
open Go.RowKit
set_option linter.unusedVariables false
set_option linter.unusedSimpArgs false

/-- A row that is written into, with what it holds. -/
def Wv1 (e : TypeId) (sz : Nat) (a : Option Addr) (n : Nat) (V : Nat → Value) : Thing1 := fun w F => F = (a.map (·.block)).toList ∧ WRow w e sz a n V
def WvT (e : TypeId) (sz : Nat) (a : Option Addr) (n : Nat) (V : Nat → Value) : Thing := own (Wv1 e sz a n V)
instance (e : TypeId) (sz : Nat) (a : Option Addr) (n : Nat) (V : Nat → Value) : Loc1 (Wv1 e sz a n V) where
  keep := fun ⟨h1, h2⟩ hF hd => ⟨h1, h2.keep hF (fun g hg => hd g (by subst hg; rw [h1]; simp))⟩
  lt := fun ⟨h1, h2⟩ x hx => by
    subst h1
    rcases h2 with ⟨rfl, _⟩ | ⟨g, cur, rfl, hh, _⟩
    · simp at hx
    · simp at hx; subst hx; exact lt_of_block hh

section
variable {W : Base} {w : World} {R : List Thing}

/-- Things of which less is said. -/
theorem St.weaken {R' : List Thing} (H : St W w R) (hl : R'.length = R.length) (h : ∀ (i : Nat) (A A' : Thing), R[i]? = some A → R'[i]? = some A' → A' = A ∨ Loc A' ∧ ∀ F G, A w F G → A' w F G) : St W w R' := by
  obtain ⟨h1, Fs, Gs, h2, h3, h4⟩ := H
  refine ⟨h1, Fs, Gs, fun i A' hA' => ?_, by rw [hl]; exact h3, by rw [hl]; exact h4⟩
  have hlt := lt_of_get hA'
  rw [hl] at hlt
  obtain ⟨g1, g2, g3⟩ := h2 i _ (List.getElem?_eq_getElem hlt)
  rcases h i _ A' (List.getElem?_eq_getElem hlt) hA' with rfl | ⟨k1, k2⟩
  · exact ⟨g1, g2, g3⟩
  · exact ⟨k2 _ _ g1, k1, g3⟩

theorem St.wv (H : St W w R) (i : Nat) {e : TypeId} {sz n : Nat} {a : Option Addr} {V : Nat → Value} (hi : R[i]? = some (WvT e sz a n V)) : WRow w e sz a n V := by
  obtain ⟨F, ⟨_, h1⟩, _⟩ := H.get i hi; exact h1
theorem St.setWv (H : St W w R) (i : Nat) {e : TypeId} {sz n g : Nat} {V : Nat → Value} (hi : R[i]? = some (WvT e sz (some ⟨g, 0, none⟩) n V)) (j : Nat) (v : Value) : St W (w.setCell ⟨g, j, none⟩ v) (R.set i (WvT e sz (some ⟨g, 0, none⟩) n (fun i => if i = j then v else V i))) := by
  obtain ⟨F, ⟨rfl, h1⟩, h2, h3⟩ := H.at i hi
  exact h3 (w.setCell ⟨g, j, none⟩ v) [g] (Wv1 e sz (some ⟨g, 0, none⟩) n _) inferInstance ⟨rfl, h1.set j v⟩ ((Fr.refl _ _).setCell (.inl (by simp)) _) (fun x hx => .inl hx)

/-- The last of the things: less is said of it. -/
theorem St.weakEnd {A A' : Thing} (hL : Loc A') (h : ∀ F G, A w F G → A' w F G) (H : St W w (R ++ [A])) : St W w (R ++ [A']) := by
  refine H.weaken (by simp) (fun i B B' hB hB' => ?_)
  by_cases hi : i < R.length
  · rw [List.getElem?_append_left hi] at hB hB'
    rw [hB] at hB'
    exact .inl (Option.some.inj hB').symm
  · have h1 : i = R.length := by have := lt_of_get hB; simp at this; omega
    subst h1
    simp at hB hB'
    subst hB hB'
    exact .inr ⟨hL, h⟩
/-- A row that stands at the end: what it holds. -/
theorem St.wvEnd {α : Type} (L : Lay α) {e : TypeId} {a : Option Addr} {c : Nat} {l : List α} (H : St W w (R ++ [RowT e L.sz (.slice a l.length c) l.length (L.cells l)])) : St W w (R ++ [WvT e L.sz a l.length (L.at_ l)]) :=
  H.weakEnd (inferInstance : Loc (own (Wv1 _ _ _ _ _))) (fun F G ⟨h1, h2, h3⟩ => ⟨h1, by rw [h2]; cases a <;> rfl, ownsRow_W h3 _ (fun j hj => L.get l j hj)⟩)
/-- A block that is written into is let go. -/
theorem St.lose {w' : World} (H : St W w R) (i : Nat) {b : Nat} {o : Obj} (hi : R[i]? = some (BlkT b o)) (hF : Fr [b] w w') : St W w' (R.set i (own fun _ F => F = [])) := by
  obtain ⟨F, ⟨rfl, _⟩, _, h⟩ := H.at i hi
  exact h w' [] (fun _ F => F = []) ⟨fun h _ _ => h, fun h x hx => by rw [h] at hx; cases hx⟩ rfl hF (by simp)
end
end Go.Proofs.YthghnlgojmedgaaGreat

/-
  Things packed into one, and taken apart again. Of no program.
-/
namespace Go.Proofs.YthghnlgojmedgaaGreat
open Go.RowKit
set_option linter.unusedVariables false
set_option linter.unusedSimpArgs false

/-- Several things in one. -/
def Pack1 (L : List Thing1) : Thing1 := fun w F => (∀ A, A ∈ L → Loc1 A) ∧ ∃ FF : Nat → List Nat, F = (List.range L.length).flatMap FF ∧ (∀ (k : Nat) (A : Thing1), L[k]? = some A → A w (FF k)) ∧ ∀ j k : Nat, j < L.length → k < L.length → j ≠ k → ∀ x, x ∈ FF j → x ∉ FF k
def PackT (L : List Thing1) : Thing := own (Pack1 L)
theorem Pack1.keep {L : List Thing1} {w w' : World} {F S : List Nat} (h : Pack1 L w F) (hF : Fr S w w') (hd : ∀ x, x ∈ F → x ∉ S) : Pack1 L w' F := by
  obtain ⟨h0, FF, rfl, h1, h2⟩ := h
  refine ⟨h0, FF, rfl, fun k A hA => ?_, h2⟩
  have := h0 A (List.mem_of_getElem? hA)
  exact this.keep (h1 k A hA) hF (fun x hx => hd x (List.mem_flatMap.2 ⟨k, by simpa using (List.getElem?_eq_some_iff.1 hA).1, hx⟩))
theorem Pack1.lt {L : List Thing1} {w : World} {F : List Nat} (h : Pack1 L w F) : ∀ x, x ∈ F → x < w.heap.size := by
  obtain ⟨h0, FF, rfl, h1, h2⟩ := h
  intro x hx
  obtain ⟨k, hk, hx⟩ := List.mem_flatMap.1 hx
  have hk : k < L.length := by simpa using hk
  have := h0 _ (List.getElem_mem hk)
  exact this.lt (h1 k _ (List.getElem?_eq_getElem hk)) x hx
instance (L : List Thing1) : Loc1 (Pack1 L) where
  keep := fun h hF hd => h.keep hF hd
  lt := fun h x hx => h.lt x hx

/-- Nothing at all. -/
def Nil1 : Thing1 := fun _ F => F = []
def NilT : Thing := own Nil1
instance : Loc1 Nil1 where
  keep := fun h _ _ => h
  lt := fun h x hx => by rw [h] at hx; cases hx

section
variable {W : Base} {w : World} {R : List Thing}

theorem St.unpackG (H : St W w R) (i : Nat) {B : Thing1} (hi : R[i]? = some (own B)) : ∃ F, B w F ∧ ∀ L : List Thing1, Pack1 L w F → St W w (R.set i NilT ++ L.map own) := by
  obtain ⟨h1, Fs, Gs, h2, h3, h4⟩ := H
  have hlt := lt_of_get hi
  obtain ⟨⟨hG, hB⟩, hL, hf, hg⟩ := h2 i _ hi
  refine ⟨Fs i, hB, fun L hP => ?_⟩
  obtain ⟨p0, FF, pF, p1, p2⟩ := hP
  have hmem : ∀ k, k < L.length → ∀ x, x ∈ FF k → x ∈ Fs i := fun k hk x hx => by rw [pF]; exact List.mem_flatMap.2 ⟨k, by simpa using hk, hx⟩
  refine ⟨h1, fun j => if j < R.length then (if j = i then [] else Fs j) else FF (j - R.length), fun j => if j < R.length then (if j = i then [] else Gs j) else [], fun j A hA => ?_, fun j k hj hk hjk x hx hxk => ?_, fun j k hj hk x hx hxk => ?_⟩
  · by_cases hjr : j < R.length
    · rw [List.getElem?_append_left (by simpa using hjr)] at hA
      simp only [if_pos hjr]
      by_cases hji : j = i
      · subst hji
        rw [List.getElem?_set_self hlt] at hA
        cases hA
        simp only [if_pos]
        exact ⟨⟨rfl, rfl⟩, (inferInstance : Loc (own Nil1)), by simp, by simp⟩
      · rw [List.getElem?_set_ne (fun e => hji e.symm)] at hA
        simp only [if_neg hji]
        exact h2 j A hA
    · rw [List.getElem?_append_right (by simpa using hjr)] at hA
      simp only [List.length_set, List.getElem?_map] at hA
      obtain ⟨A1, hA1, rfl⟩ := Option.map_eq_some_iff.1 hA
      simp only [if_neg hjr]
      have hk := (List.getElem?_eq_some_iff.1 hA1).1
      have hl := p0 A1 (List.mem_of_getElem? hA1)
      exact ⟨⟨rfl, p1 _ _ hA1⟩, inferInstance, fun x hx => hf x (hmem _ hk x hx), by simp⟩
  · simp only [List.length_append, List.length_set, List.length_map] at hj hk
    by_cases hjr : j < R.length
    · simp only [if_pos hjr] at hx
      by_cases hji : j = i
      · simp [hji] at hx
      · simp only [if_neg hji] at hx
        by_cases hkr : k < R.length
        · simp only [if_pos hkr] at hxk
          by_cases hki : k = i
          · simp [hki] at hxk
          · simp only [if_neg hki] at hxk
            exact h3 j k hjr hkr hjk x hx hxk
        · simp only [if_neg hkr] at hxk
          exact h3 j i hjr hlt hji x hx (hmem _ (by omega) x hxk)
    · simp only [if_neg hjr] at hx
      by_cases hkr : k < R.length
      · simp only [if_pos hkr] at hxk
        by_cases hki : k = i
        · simp [hki] at hxk
        · simp only [if_neg hki] at hxk
          exact h3 k i hkr hlt hki x hxk (hmem _ (by omega) x hx)
      · simp only [if_neg hkr] at hxk
        exact p2 _ _ (by omega) (by omega) (by omega) x hx hxk
  · simp only [List.length_append, List.length_set, List.length_map] at hj hk
    by_cases hkr : k < R.length
    · simp only [if_pos hkr] at hxk
      by_cases hki : k = i
      · simp [hki] at hxk
      · simp only [if_neg hki] at hxk
        by_cases hjr : j < R.length
        · simp only [if_pos hjr] at hx
          by_cases hji : j = i
          · simp [hji] at hx
          · simp only [if_neg hji] at hx
            exact h4 j k hjr hkr x hx hxk
        · simp only [if_neg hjr] at hx
          exact h4 i k hlt hkr x (hmem _ (by omega) x hx) hxk
    · simp [if_neg hkr] at hxk

theorem St.packG {T : List Thing} {L : List Thing1} (H : St W w (T ++ L.map own)) (i : Nat) (hi : T[i]? = some NilT) (hL : ∀ A, A ∈ L → Loc1 A) {B : Thing1} [hB : Loc1 B] (h : ∀ F, Pack1 L w F → B w F) : St W w (T.set i (own B)) := by
  obtain ⟨h1, Fs, Gs, h2, h3, h4⟩ := H
  have hlt := lt_of_get hi
  have hget : ∀ k A, L[k]? = some A → (T ++ L.map own)[T.length + k]? = some (own A) := fun k A hk => by
    rw [List.getElem?_append_right (by omega), Nat.add_sub_cancel_left, List.getElem?_map, hk]; rfl
  have hP : Pack1 L w ((List.range L.length).flatMap fun k => Fs (T.length + k)) := by
    refine ⟨hL, fun k => Fs (T.length + k), rfl, fun k A hA => ?_, fun j k hj hk hjk => ?_⟩
    · exact (h2 _ _ (hget k A hA)).1.2
    · exact h3 _ _ (by simp; omega) (by simp; omega) (by omega)
  have hmem : ∀ x, x ∈ ((List.range L.length).flatMap fun k => Fs (T.length + k)) → ∃ k, k < L.length ∧ x ∈ Fs (T.length + k) := fun x hx => by
    obtain ⟨k, hk, hx⟩ := List.mem_flatMap.1 hx
    exact ⟨k, by simpa using hk, hx⟩
  refine ⟨h1, fun j => if j = i then (List.range L.length).flatMap (fun k => Fs (T.length + k)) else Fs j, fun j => if j = i then [] else Gs j, fun j A hA => ?_, fun j k hj hk hjk x hx hxk => ?_, fun j k hj hk x hx hxk => ?_⟩
  · by_cases hji : j = i
    · subst hji
      rw [List.getElem?_set_self hlt] at hA
      cases hA
      simp only [if_pos]
      refine ⟨⟨rfl, h _ hP⟩, inferInstance, fun x hx => ?_, by simp⟩
      obtain ⟨k, hk, hx⟩ := hmem x hx
      exact (h2 _ _ (hget k _ (List.getElem?_eq_getElem hk))).2.2.1 x hx
    · rw [List.getElem?_set_ne (fun e => hji e.symm)] at hA
      simp only [if_neg hji]
      have hj := lt_of_get hA
      exact h2 j A (by rw [List.getElem?_append_left hj]; exact hA)
  · simp only [List.length_set] at hj hk
    by_cases hji : j = i
    · simp only [if_pos hji] at hx
      have hki : ¬ k = i := fun e => hjk (hji.trans e.symm)
      simp only [if_neg hki] at hxk
      obtain ⟨m, hm, hx⟩ := hmem x hx
      exact h3 _ _ (by simp; omega) (by simp; omega) (by omega) x hx hxk
    · simp only [if_neg hji] at hx
      by_cases hki : k = i
      · simp only [if_pos hki] at hxk
        obtain ⟨m, hm, hxk⟩ := hmem x hxk
        exact h3 _ _ (by simp; omega) (by simp; omega) (by omega) x hx hxk
      · simp only [if_neg hki] at hxk
        exact h3 _ _ (by simp; omega) (by simp; omega) hjk x hx hxk
  · simp only [List.length_set] at hj hk
    by_cases hki : k = i
    · simp [if_pos hki] at hxk
    · simp only [if_neg hki] at hxk
      by_cases hji : j = i
      · simp only [if_pos hji] at hx
        obtain ⟨m, hm, hx⟩ := hmem x hx
        exact h4 _ _ (by simp; omega) (by simp; omega) x hx hxk
      · simp only [if_neg hji] at hx
        exact h4 _ _ (by simp; omega) (by simp; omega) x hx hxk

/-- Behind the end: several things become one. -/
theorem St.packEnd {L : List Thing1} (H : St W w (R ++ L.map own)) (hL : ∀ A, A ∈ L → Loc1 A) {B : Thing1} [hB : Loc1 B] (h : ∀ F, Pack1 L w F → B w F) : St W w (R ++ [own B]) := by
  have h1 : St W w ((R ++ L.map own) ++ [NilT]) := H.new (A := Nil1) (F := []) (Fr.refl _ _) inferInstance rfl (by simp)
  have h2 : St W w ((R ++ [NilT]) ++ L.map own) := by
    refine h1.pick (List.range R.length ++ [(R ++ L.map own).length] ++ (List.range L.length).map (R.length + ·)) ?_ (by simp <;> omega) (fun k j hk => ?_)
    · rw [List.nodup_append, List.nodup_append]
      refine ⟨⟨List.nodup_range, by simp, fun a ha b hb => by simp at ha hb; omega⟩, List.Pairwise.map _ (fun a b hab => by simpa using hab) List.nodup_range, fun a ha b hb => ?_⟩
      simp at ha hb
      obtain ⟨c, hc, rfl⟩ := hb
      omega
    · by_cases hk1 : k < R.length
      · rw [List.append_assoc, List.getElem?_append_left (by simpa using hk1), List.getElem?_range hk1] at hk
        cases hk
        rw [List.append_assoc, List.getElem?_append_left hk1, List.append_assoc, List.getElem?_append_left hk1]
      · by_cases hk2 : k = R.length
        · subst hk2
          have e0 : (List.range R.length ++ [(R ++ L.map own).length] ++ (List.range L.length).map (R.length + ·))[R.length]? = some (R ++ L.map own).length := by
            rw [List.append_assoc, List.getElem?_append_right (by simp)]; simp
          rw [e0] at hk
          cases hk
          have e1 : ((R ++ [NilT]) ++ L.map own)[R.length]? = some NilT := by
            rw [List.getElem?_append_left (by simp), List.getElem?_append_right (Nat.le_refl _), Nat.sub_self]; rfl
          have e2 : ((R ++ L.map own) ++ [NilT])[(R ++ L.map own).length]? = some NilT := by
            rw [List.getElem?_append_right (Nat.le_refl _), Nat.sub_self]; rfl
          rw [e1, e2]
        · rw [List.getElem?_append_right (by simp; omega)] at hk
          simp only [List.length_append, List.length_range, List.length_singleton, List.getElem?_map] at hk
          obtain ⟨m, hm, rfl⟩ := Option.map_eq_some_iff.1 hk
          obtain ⟨hm1, hm2⟩ := List.getElem?_eq_some_iff.1 hm
          simp at hm1 hm2
          rw [List.getElem?_append_right (by simp; omega), List.append_assoc, List.getElem?_append_right (by omega), Nat.add_sub_cancel_left, List.getElem?_append_left (by simpa using by omega)]
          congr 1
          simp; omega
  have h3 := h2.packG R.length (by simp) hL h
  rwa [List.set_append_right _ _ (by omega), Nat.sub_self] at h3

/-! ### The order of the things doesn't count -/
theorem St.swap {A B : Thing} {T : List Thing} (H : St W w (R ++ A :: B :: T)) : St W w (R ++ B :: A :: T) := by
  have hinj : ∀ a b : Nat, (if a = R.length then R.length + 1 else if a = R.length + 1 then R.length else a) = (if b = R.length then R.length + 1 else if b = R.length + 1 then R.length else b) → a = b := fun a b h => by
    split at h <;> split at h <;> (try split at h) <;> (try split at h) <;> omega
  refine H.pick ((List.range (R ++ A :: B :: T).length).map fun k => if k = R.length then R.length + 1 else if k = R.length + 1 then R.length else k) (List.Pairwise.map _ (fun a b hab h => hab (hinj a b h)) List.nodup_range) (by simp) (fun k i hk => ?_)
  rw [List.getElem?_map] at hk
  obtain ⟨j, hj, rfl⟩ := Option.map_eq_some_iff.1 hk
  obtain ⟨h1, h2⟩ := List.getElem?_eq_some_iff.1 hj
  simp at h1 h2
  subst h2
  by_cases e1 : k = R.length
  · subst e1
    rw [if_pos rfl, List.getElem?_append_right (Nat.le_refl _), List.getElem?_append_right (by omega)]
    simp
  · rw [if_neg e1]
    by_cases e2 : k = R.length + 1
    · subst e2
      rw [if_pos rfl, List.getElem?_append_right (by omega), List.getElem?_append_right (Nat.le_refl _)]
      simp
    · rw [if_neg e2]
      by_cases e3 : k < R.length
      · rw [List.getElem?_append_left e3, List.getElem?_append_left e3]
      · obtain ⟨m, hm⟩ : ∃ m, k = R.length + (m + 2) := ⟨k - R.length - 2, by omega⟩
        subst hm
        rw [List.getElem?_append_right (by omega), List.getElem?_append_right (by omega), Nat.add_sub_cancel_left]
        rfl
theorem St.permG {A B : List Thing} (h : A.Perm B) : ∀ {R : List Thing}, St W w (R ++ A) → St W w (R ++ B) := by
  induction h with
  | nil => exact fun H => H
  | cons x _ ih =>
    intro R H
    have h1 := ih (R := R ++ [x]) (by rw [List.append_assoc]; exact H)
    rw [List.append_assoc] at h1
    exact h1
  | swap x y l => exact fun H => H.swap
  | trans _ _ ih1 ih2 => exact fun H => ih2 (ih1 H)
theorem St.perm {R' : List Thing} (H : St W w R) (h : R.Perm R') : St W w R' := by
  have := St.permG (R := []) h (by simpa using H)
  simpa using this
/-- Some of the things, in any order. -/
theorem St.sub {A B : List Thing} (H : St W w R) (h : R.Perm (A ++ B)) : St W w A := by
  have h1 := (H.perm h).take A.length
  rwa [List.take_left'] at h1
  rfl
end
end Go.Proofs.YthghnlgojmedgaaGreat

/-
  wal: frames.
-/
namespace Go.Proofs.YthghnlgojmedgaaGreat
open Go.RowKit
set_option linter.unusedVariables false
set_option linter.unusedSimpArgs false

theorem frs_app (l m : List ByteArray) : frs (l ++ m) = frs l ++ frs m := by simp [frs]
theorem frs_pre : ∀ (l m : List ByteArray) (x : List UInt8), okRecs l → okRecs m → (frs m).length < 18446744073709551616 → frs l ++ x = frs m → ∃ r, m = l ++ r ∧ x = frs r
  | [], m, x, _, _, _, h => ⟨m, rfl, h⟩
  | t :: l, [], x, _, _, _, h => by
    have h1 := congrArg List.length h
    have h2 := tf_pos t
    rw [frs_cons, List.append_assoc, List.length_append, bl_len] at h1
    simp only [frs, List.flatMap_nil, List.length_nil] at h1
    omega
  | t :: l, u :: m, x, hl, hm, hsz, h => by
    have ht := hl t (by simp)
    have hu := hm u (by simp)
    rw [frs_cons, frs_cons, List.append_assoc] at h
    rw [frs_cons] at hsz
    have h2 : ∀ (a : ByteArray) (x : List UInt8), okRec a → (bl (tf a) ++ x).length < 18446744073709551616 → rdText ⟨(bl (tf a) ++ x).toArray⟩ 0 2048 = .ok (a, (bl (tf a)).length) := by
      intro a x ha hsz
      refine (rdText_iff (by decide) ?_).2 ⟨rds_pre (y := x) (bl_mk _), by have := ha.2; omega⟩
      rw [← bl_len, bl_mk]; exact hsz
    have a1 := h2 t (frs l ++ x) ht (by rw [h]; exact hsz)
    have a2 := h2 u (frs m) hu hsz
    rw [h, a2] at a1
    have a3 : u = t := by
      have := congrArg (fun x : Except Int (ByteArray × Nat) => match x with | .ok (a, _) => a | .error _ => t) a1
      exact this
    subst a3
    obtain ⟨r, hr, hx⟩ := frs_pre l m x (fun x hx => hl x (by simp [hx])) (fun x hx => hm x (by simp [hx])) (by rw [List.length_append] at hsz; omega) (List.append_cancel_left h)
    exact ⟨r, by rw [hr]; rfl, hx⟩

/-- What was read so far. -/
structure FrI (b : ByteArray) (p : Nat) (l : List ByteArray) : Prop where
  ok : okRecs l
  eq : frs l ++ (bl b).drop p = bl b
  le : p ≤ b.size
theorem FrI.next {b : ByteArray} {p q : Nat} {l : List ByteArray} {t : ByteArray} (h : FrI b p l) (hb : b.size < 18446744073709551616) (hr : rdText b p 2048 = .ok (t, q)) (ht : ¬ t.size = 0) : FrI b q (l ++ [t]) := by
  obtain ⟨h1, h2⟩ := (rdText_iff (by decide) hb).1 hr
  refine ⟨okRecs_snoc h.ok ⟨by omega, by omega⟩, ?_, h1.le⟩
  rw [frs_snoc, List.append_assoc, ← h1.eq]
  exact h.eq
theorem FrI.rest {b : ByteArray} {p : Nat} {l m : List ByteArray} (h : FrI b p l) (hb : b.size < 18446744073709551616) (hm : okRecs m) (e : bl b = frs m) (hp : p < b.size) : ∃ t q, rdText b p 2048 = .ok (t, q) ∧ ¬ t.size = 0 := by
  obtain ⟨r, hr, hx⟩ := frs_pre l m _ h.ok hm (by rw [← e, bl_len]; exact hb) (h.eq.trans e)
  cases r with
  | nil =>
    have := congrArg List.length hx
    rw [List.length_drop, bl_len] at this
    simp [frs] at this
    omega
  | cons t r =>
    have ht : okRec t := hm t (by rw [hr]; simp)
    rw [frs_cons] at hx
    have hl := congrArg List.length hx
    rw [List.length_drop, bl_len, List.length_append] at hl
    refine ⟨t, p + (bl (tf t)).length, (rdText_iff (by decide) hb).2 ⟨⟨?_, rfl, by omega⟩, by have := ht.2; omega⟩, by have := ht.1; omega⟩
    rw [← List.drop_drop, hx, List.drop_left]
theorem FrI.none1 {b : ByteArray} {p : Nat} {l : List ByteArray} {c : Int} (h : FrI b p l) (hb : b.size < 18446744073709551616) (hp : p < b.size) (hr : rdText b p 2048 = .error c) : ∀ m, okRecs m → bl b ≠ frs m := by
  intro m hm e
  obtain ⟨t, q, h1, _⟩ := h.rest hb hm e hp
  rw [hr] at h1; cases h1
theorem FrI.none2 {b : ByteArray} {p q : Nat} {l : List ByteArray} {t : ByteArray} (h : FrI b p l) (hb : b.size < 18446744073709551616) (hp : p < b.size) (hr : rdText b p 2048 = .ok (t, q)) (ht : t.size = 0) : ∀ m, okRecs m → bl b ≠ frs m := by
  intro m hm e
  obtain ⟨t', q', h1, h2⟩ := h.rest hb hm e hp
  rw [hr] at h1
  simp only [Except.ok.injEq, Prod.mk.injEq] at h1
  exact h2 (h1.1 ▸ ht)
theorem FrI.done {b : ByteArray} {p : Nat} {l : List ByteArray} (h : FrI b p l) (hp : ¬ p < b.size) : bl b = frs l := by
  have e : (bl b).drop p = [] := List.drop_eq_nil_of_le (by rw [bl_len]; omega)
  have h1 := h.eq
  rw [e, List.append_nil] at h1
  exact h1.symm

section
variable {W : Base} {w : World} {R : List Thing}

theorem map_str (l : List ByteArray) (j : Nat) (h : j < l.length * 1) : (l.map Value.string)[j]? = some (strV l j) := by
  have hj : j < l.length := by omega
  simp [strV, sAt, List.getD, hj]
/-- What frames comes to. -/
def FrTo (W : Base) (R : List Thing) (b : ByteArray) (e : Ending) (w' : World) : Prop :=
  (∃ l, okRecs l ∧ bl b = frs l ∧ ∃ a, e = .returned (.tuple #[.slice a l.length l.length, .bool true]) ∧ St W w' (R ++ [WvT 9 1 a l.length (strV l)])) ∨
  ((∀ m, okRecs m → bl b ≠ frs m) ∧ e = .returned (.tuple #[.slice none 0 0, .bool false]) ∧ St W w' R)

theorem St.frEnd {A : Thing} {a : Option Addr} {n c : Nat} {l : List ByteArray} (H : St W w (R ++ (A :: [RowT 9 1 (.slice a n c) l.length (l.map Value.string)]))) : St W w (R ++ [WvT 9 1 a l.length (strV l)]) := by
  have h := H.sub (A := R ++ [RowT 9 1 (.slice a n c) l.length (l.map Value.string)]) (B := [A]) (by
    rw [List.append_assoc]
    exact List.Perm.append_left _ (List.Perm.swap _ _ _))
  refine h.weakEnd (inferInstance : Loc (own (Wv1 _ _ _ _ _))) (fun F G ⟨h1, h2, h3⟩ => ⟨h1, by rw [h2]; cases a <;> rfl, ?_⟩)
  have h4 : n = l.length := by
    rcases h3.2 with ⟨hv, h0⟩ | ⟨g, cap, cur, hv, _⟩
    · simp only [Value.slice.injEq] at hv; omega
    · simp only [Value.slice.injEq] at hv; exact hv.2.1
  subst h4
  exact ownsRow_W h3 _ (fun j hj => map_str l j hj)

set_option maxHeartbeats 1600000 in
set_option maxRecDepth 100000 in
theorem st_wframes (H : St W w R) (b : ByteArray) (hb : b.size ≤ 65536) :
    Calls Tryz.prog 66 #[.string b] w (FrTo W R b) := by
  have HR := hid (st_read0 H b)
  clear H
  have hb64 : b.size < 18446744073709551616 := by omega
  have HB := hid hb64
  clear hb64
  go_enter Tryz.func66, Tryz.ntmps66
  go_wp2_with fail
  refine HR.out.mono ?_
  rintro e w1 ⟨r, rfl, hS⟩
  have HS := hid hS
  clear hS HR
  go_wp2_with fail
  go_loopw [4] (fun lv wr => ∃ (l : List ByteArray) (p : Nat), Hid (FrI b p l) ∧ p ≤ b.size ∧ l.length ≤ p ∧ St W wr (R ++ (RdT r ⟨b, p, 0⟩ :: [RowT 9 1 lv l.length (l.map Value.string)]))) (fun _ wr => b.size - (((wr.cell? ⟨r, 1, none⟩).map fun v => (intOf v).toNat).getD 0))
  case atStart =>
    refine ⟨[], 0, hid ⟨fun t ht => (by cases ht), rfl, Nat.zero_le _⟩, Nat.zero_le _, Nat.le_refl _, ?_⟩
    have h := HS.out.new (A := Row1 9 1 (.slice none 0 0) 0 []) (F := []) (Fr.refl _ _) inferInstance ⟨rfl, World.ownsRow_nil _ _ _ _⟩ (by simp)
    rw [List.append_assoc] at h
    exact h
  case round =>
    obtain ⟨l, p, hI, hp, hlp, hS⟩ := hrel
    have hwf : RS.wf ⟨b, p, 0⟩ := ⟨hp, by show b.size ≤ _; omega⟩
    have HL := hid (st_left hS (R.length + 0) (r := r) (s := ⟨b, p, 0⟩) (by rw [get_behind]; rfl) hwf)
    have HS2 := hid hS
    have hm0 : wr.cell? ⟨r, 1, none⟩ = some (.int .i64 p) := (hS.rd (R.length + 0) (r := r) (s := ⟨b, p, 0⟩) (by rw [get_behind]; rfl)).2.1
    have HM0 := hid hm0
    have HW := hid hwf
    clear hS hwf hm0
    go_wp2_with fail
    refine HL.out.mono ?_
    rintro e w2 ⟨rfl, hS⟩
    dsimp only
    by_cases hlt : p < b.size
    · have h1 : (0 : Int) < (b.size : Int) - p := by omega
      obtain ⟨X, hX⟩ : ∃ X, rdText b p 2048 = X := ⟨_, rfl⟩
      have HT := st_Text hS (R.length + 0) (r := r) (s := ⟨b, p, 0⟩) (by rw [get_behind]; rfl) HW.out (m := 2048) (by decide)
      dsimp only at HT
      rw [hX, List.set_append_right _ _ (by omega), Nat.add_sub_cancel_left] at HT
      have HT := hid HT
      have HX := hid hX
      clear hS HL hX
      rcases X with c | ⟨t, q⟩
      · have hc := hid (rdText_err HX.out)
        have e1 : (c == 0) = false := by rw [beq_eq_false_iff_ne]; exact hc.out
        have e2 : (c != 0) = true := by rw [bne_iff_ne]; exact hc.out
        simp only [RS.got, RS.face, if_pos] at HT
        go_wp2_with fail
        refine HT.out.mono ?_
        rintro e w3 ⟨rfl, hS3⟩
        have HF := hid (st_fault hS3 (R.length + 0) (r := r) (s := ⟨b, p, c⟩) (by rw [get_behind]; rfl))
        have HS3 := hid hS3.drop
        clear hS3 HT
        simp only [RS.fault, if_neg hc.out] at HF
        go_wp2_with fail
        refine HF.out.mono ?_
        rintro e w4 ⟨rfl, hS4⟩
        have HS4 := hid hS4.drop
        clear hS4 HF HS3
        go_wp2_with fail
        go_ret2
        exact .inr ⟨hI.out.none1 HB.out hlt HX.out, rfl, HS4.out⟩
      · simp only [RS.got, RS.face, if_pos] at HT
        go_wp2_with fail
        refine HT.out.mono ?_
        rintro e w3 ⟨rfl, hS3⟩
        have HF := hid (st_fault hS3 (R.length + 0) (r := r) (s := ⟨b, q, 0⟩) (by rw [get_behind]; rfl))
        clear hS3 HT
        simp only [RS.fault, if_pos] at HF
        go_wp2_with fail
        refine HF.out.mono ?_
        rintro e w4 ⟨rfl, hS4⟩
        have HS4 := hid hS4
        clear hS4 HF
        by_cases ht : t.size = 0
        · have e1 : t.toList.isEmpty = true := by
            have h0 : t.data.toList = [] := List.length_eq_zero_iff.1 ht
            rw [ByteArray.toList_eq, h0]; rfl
          have hno := hid (hI.out.none2 HB.out hlt HX.out ht)
          clear ht
          go_wp2_with fail
          go_ret2
          exact .inr ⟨hno.out, rfl, HS4.out.drop⟩
        · have e1 : t.toList.isEmpty = false := by
            cases hb : t.toList with
            | nil =>
              rw [ByteArray.toList_eq] at hb
              exact absurd (show t.data.size = 0 from by rw [← Array.length_toList, hb]; rfl) ht
            | cons _ _ => rfl
          have hnx := hid (hI.out.next HB.out HX.out ht)
          have hpq := ((rdText_iff (by decide) HB.out).1 HX.out).1
          have hpq1 : p < q := by have := hpq.at_; rw [bl_len] at this; have := tf_pos t; omega
          have hpq2 := hpq.le
          obtain ⟨i0, hi0, hz0, hz1, hz2⟩ := info_parts info_string
          have HI := hid (And.intro hi0 (And.intro hz0 (And.intro hz1 hz2)))
          have HAP := hid ((HS4.out.alloc_ (.cells #[.string t] 9)).append (R.length + 1) (e := 9) (size := 1) (n := l.length) (v := u4) (xs := l.map Value.string) (by rw [get_behind]; rfl))
          clear ht hpq hi0 hz0 hz1 hz2
          go_wp2_with (at_builtin; refine wpList_append_blk rfl (.tmp 27) (.tmp 29) 34 rfl 9 i0 (.string ByteArray.empty) 1 16 Tryz.underlying34 HI.out.1 HI.out.2.1 HI.out.2.2.1 HI.out.2.2.2 rfl (by decide) u4 l.length (l.map Value.string) rfl HAP.out.1 ⟨w4.heap.size, 0, none⟩ 1 1 [.string t] rfl rfl (news_alloc w4 [.string t] 9) (by intro u hu; simp at hu; subst hu; rfl) (by unfold maxLen; omega) (by omega) ?_)
          intro v' w9 ho hF hb hn
          have H9 := hid (HAP.out.2 v' w9 (l.length + 1) (l.map Value.string ++ [.string t]) ho (by simpa using hF) (by simpa using hb))
          clear ho hF hb hn HAP
          go_wp2_with fail
          have H10 : St W w9 (R ++ (RdT r ⟨b, q, 0⟩ :: [RowT 9 1 v' (l ++ [t]).length ((l ++ [t]).map Value.string)])) := by
            have h := H9.out
            rw [List.set_append_right _ _ (by omega), Nat.add_sub_cancel_left] at h
            rw [List.length_append, List.map_append]
            exact h
          have hm1 : w9.cell? ⟨r, 1, none⟩ = some (.int .i64 q) := (H10.rd (R.length + 0) (r := r) (s := ⟨b, q, 0⟩) (by rw [get_behind]; rfl)).2.1
          refine ⟨⟨l ++ [t], q, hnx, hpq2, by rw [List.length_append, List.length_singleton]; omega, H10⟩, ?_⟩
          rw [hm1, HM0.out]
          simp [intOf]; omega
    · have h1 : ¬ (0 : Int) < (b.size : Int) - p := by omega
      have HE := hid (hI.out.done hlt)
      have ho := hS.row (R.length + 1) (e := 9) (size := 1) (n := l.length) (v := u4) (xs := l.map Value.string) (by rw [get_behind]; rfl)
      have HO := hid ho
      have HSS := hid hS
      clear hS HL hlt
      rcases owns_one ho with ⟨rfl, hn, _⟩ | ⟨g, cap, rfl, hle, hmx⟩
      · clear ho
        have HN := hid hn
        clear hn
        go_wp2_with fail
        go_ret2
        refine .inl ⟨l, hI.out.ok, HE.out, none, by rw [HN.out]; rfl, HSS.out.frEnd⟩
      · clear ho
        go_wp2_with fail
        go_ret2
        exact .inl ⟨l, hI.out.ok, HE.out, _, rfl, HSS.out.frEnd⟩
end
end Go.Proofs.YthghnlgojmedgaaGreat

/-
  That a region may be walked in the text's order: by a small table of its operations (its destination, what it looks at, what it waits for). Of no program.
-/
namespace Go.Proofs.YthghnlgojmedgaaGreat
set_option linter.unusedVariables false

/-- What is asked of an operation: its destination, what it looks at, what it waits for. -/
def lexRow (ops : Array Oper) (o : Oper) : Option Nat × List Nat × List Nat :=
  (o.dst, o.looksAt ops, (o.after.toList.filter fun e => Region.binds .any e).map (·.on))
def rowApart (x y : Option Nat × List Nat × List Nat) : Bool :=
  (match x.1 with | some d => !(y.2.1.contains d) && y.1 != some d | none => true) &&
  (match y.1 with | some d => !(x.2.1.contains d) | none => true)
def rowsGood : Nat → List (Option Nat × List Nat × List Nat) → Bool
  | _, [] => true
  | k, x :: rest => x.2.2.all (fun i => Nat.blt i k) && rest.all (fun y => y.2.2.contains k || rowApart x y) && rowsGood (k + 1) rest

theorem rowApart_apart {ops : Array Oper} {x y : Oper} (h : rowApart (lexRow ops x) (lexRow ops y) = true) : x.apart ops y = true := h

theorem rowsGood_at : ∀ (D : List (Option Nat × List Nat × List Nat)) (k : Nat), rowsGood k D = true → ∀ (i : Nat) (x : Option Nat × List Nat × List Nat), D[i]? = some x →
    (∀ j, j ∈ x.2.2 → j < k + i) ∧ ∀ (j : Nat) (y : Option Nat × List Nat × List Nat), i < j → D[j]? = some y → (k + i) ∈ y.2.2 ∨ rowApart x y = true
  | [], _, _, i, x, hi => by simp at hi
  | z :: rest, k, h, i, x, hi => by
    simp only [rowsGood, Bool.and_eq_true] at h
    cases i with
    | zero =>
      simp at hi; subst hi
      refine ⟨fun j hj => by have := List.all_eq_true.1 h.1.1 j hj; simpa using this, fun j y hj hy => ?_⟩
      obtain ⟨j', rfl⟩ : ∃ j', j = j' + 1 := ⟨j - 1, by omega⟩
      have hm : y ∈ rest := List.mem_of_getElem? (by simpa using hy)
      have := List.all_eq_true.1 h.1.2 y hm
      simp only [Bool.or_eq_true, List.contains_iff_mem] at this
      exact this
    | succ i =>
      have := rowsGood_at rest (k + 1) h.2 i x (by simpa using hi)
      refine ⟨fun j hj => by have := this.1 j hj; omega, fun j y hj hy => ?_⟩
      obtain ⟨j', rfl⟩ : ∃ j', j = j' + 1 := ⟨j - 1, by omega⟩
      have h2 := this.2 j' y (by omega) (by simpa using hy)
      rwa [show k + 1 + i = k + (i + 1) by omega] at h2

theorem lexFrom_good {l : List Oper} {D : List (Option Nat × List Nat × List Nat)} (hD : l.map (lexRow l.toArray) = D) (hg : rowsGood 0 D = true) :
    ∀ (fuel k : Nat) (listed : Array Bool), k + fuel = l.length → listed.size = l.length → (∀ i, i < l.length → listed[i]? = some (decide (i < k))) → Region.lexFrom .any l.toArray fuel k listed = true := by
  intro fuel
  have hrow : ∀ (i : Nat) (o : Oper), l[i]? = some o → D[i]? = some (lexRow l.toArray o) := fun i o h => by rw [← hD, List.getElem?_map, h]; rfl
  have hgood := rowsGood_at D 0 hg
  induction fuel with
  | zero =>
    intro k listed hk hs hl
    rw [Region.lexFrom, List.isEmpty_iff]
    refine List.eq_nil_iff_forall_not_mem.2 fun i hi => ?_
    obtain ⟨h0, o, ho, _⟩ := mem_ready.1 hi
    have hlt : i < l.length := by
      have := (Array.getElem?_eq_some_iff.1 ho).1
      simpa using this
    have := hl i hlt
    simp [this] at h0
    omega
  | succ fuel ih =>
    intro k listed hk hs hl
    have hkl : k < l.length := by omega
    have ho : l[k]? = some l[k] := List.getElem?_eq_getElem hkl
    have hoA : l.toArray[k]? = some l[k] := by simp
    have hg0 := hgood k _ (hrow k _ ho)
    simp only [Region.lexFrom, Bool.and_eq_true, List.contains_iff_mem]
    refine ⟨⟨?_, ?_⟩, ?_⟩
    · refine mem_ready.2 ⟨?_, l[k], hoA, fun e he hb => ?_⟩
      · simp [hl k hkl]
      · have hm : e.on ∈ (lexRow l.toArray l[k]).2.2 := List.mem_map.2 ⟨e, List.mem_filter.2 ⟨by simpa using he, hb⟩, rfl⟩
        have := hg0.1 _ hm
        simp [hl e.on (by omega)]; omega
    · rw [Region.free, hoA]
      simp only [List.all_eq_true, List.mem_range, Bool.or_eq_true]
      intro j hj
      have hj' : j < l.length := by simpa using hj
      by_cases h1 : j = k
      · simp [h1]
      · by_cases h2 : j < k
        · left; right
          simp [hl j hj', h2]
        · right
          have hoj : l[j]? = some l[j] := List.getElem?_eq_getElem hj'
          have hojA : l.toArray[j]? = some l[j] := by simp
          rw [hojA]
          rcases hg0.2 j _ (by omega) (hrow j _ hoj) with h3 | h3
          · simp only [Bool.or_eq_true]
            left
            obtain ⟨e, he, hon⟩ := List.mem_map.1 h3
            obtain ⟨he1, he2⟩ := List.mem_filter.1 he
            rw [Array.any_eq_true']
            exact ⟨e, by simpa using he1, by simp [he2]; omega⟩
          · simp only [Bool.or_eq_true]
            exact .inr (rowApart_apart h3)
    · refine ih (k + 1) _ (by omega) (by simp [hs]) fun i hi => ?_
      by_cases h1 : i = k
      · subst h1
        rw [Array.getElem?_setIfInBounds_self_of_lt (by omega)]
        simp
      · rw [Array.getElem?_setIfInBounds_ne (by omega), hl i hi]
        congr 1
        simp only [decide_eq_decide]
        omega

/-- The table is laid; it is good. -/
theorem lexB_of {l : List Oper} {D : List (Option Nat × List Nat × List Nat)} (hn : Region.noSelect l.toArray = true) (hD : l.map (lexRow l.toArray) = D) (hg : rowsGood 0 D = true) : Region.lexB .any l.toArray = true := by
  rw [Region.lexB, hn, Bool.true_and]
  exact lexFrom_good hD hg _ 0 _ (by simp) (by simp) fun i hi => by simp [hi]

theorem lexB_of' {l : List Oper} (hn : Region.noSelect l.toArray = true) (hg : rowsGood 0 (l.map (lexRow l.toArray)) = true) : Region.lexB .any l.toArray = true := lexB_of hn rfl hg

/-- An operation whose guard's Bool isn't known. -/
theorem calmRow_sym {P : Program} {ops : Array Oper} {S : World → Prop} {Q : Act → Prop} {a : Act} {o : Oper} {rest : List Oper} {v : Value} (b : Bool) (hw : Region.wanted o (yielded ops a.tmps) = b) (hv : b = true → ∀ w, S w → calmTo P S v ((execOp a.eval o).run P w))
    (h : calmRow P ops S Q rest (a.put o.dst (if b then v else undef))) : calmRow P ops S Q (o :: rest) a := by
  cases b
  · exact calmRow_skip hw h
  · exact calmRow_take hw (hv rfl) h
/-- A pick by a Bool that isn't known. -/
theorem calmRow_pick {P : Program} {ops : Array Oper} {S : World → Prop} {Q : Act → Prop} {a : Act} {o : Oper} {rest : List Oper} (v : Value) (hw : Region.wanted o (yielded ops a.tmps) = true) (hv : ∀ w, S w → calmTo P S v ((execOp a.eval o).run P w))
    (h : calmRow P ops S Q rest (a.put o.dst v)) : calmRow P ops S Q (o :: rest) a := calmRow_take hw hv h

end Go.Proofs.YthghnlgojmedgaaGreat

/-
  Whether a call returns that something holds. Of no program.
-/
namespace Go.Proofs.YthghnlgojmedgaaGreat
open Go.RowKit
set_option linter.unusedVariables false

theorem bytes_ne {a b : ByteArray} (h : a ≠ b) : (a.toList == b.toList) = false := by
  rw [beq_eq_false_iff_ne]
  intro e
  rw [ByteArray.toList_eq, ByteArray.toList_eq] at e
  apply h
  cases a; cases b
  simp only [ByteArray.mk.injEq]
  exact Array.toList_inj.1 e

/-- It returns whether P holds. -/
def IsB (P : Prop) (e : Ending) : Prop := ∃ z : Bool, e = .returned (.bool z) ∧ (z = true ↔ P)
theorem IsB.no {P : Prop} (h : ¬ P) : IsB P (.returned (.bool false)) := ⟨false, rfl, ⟨fun h => (by cases h), fun k => absurd k h⟩⟩
theorem IsB.yes {P : Prop} (h : P) : IsB P (.returned (.bool true)) := ⟨true, rfl, ⟨fun _ => h, fun _ => rfl⟩⟩

end Go.Proofs.YthghnlgojmedgaaGreat
