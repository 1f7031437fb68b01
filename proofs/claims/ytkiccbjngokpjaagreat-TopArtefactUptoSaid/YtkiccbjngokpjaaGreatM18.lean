/-
  Merged, in build order: Cs Cd.
-/
import Derived.Test.YtkiccbjngokpjaaGreatM17
import Derived.Test.YtkiccbjngokpjaaGreatM15
import Derived.Test.YtkiccbjngokpjaaGreatM13
import Derived.Test.YtkiccbjngokpjaaGreatM5
import Derived.Test.YtkiccbjngokpjaaGreatM6
/-
  chunks: a sender as a thing; New, Len, Acked, Tick, Put, Ack.
-/
namespace Go.Proofs.YtkiccbjngokpjaaGreat
open Go.RowKit
set_option linter.unusedVariables false
set_option linter.unusedSimpArgs false

theorem info_tx : (Tryz.prog.info? 9).map (fun i => (i.zero, i.size, i.bytes)) = some (some (.string ByteArray.empty), 1, 16) := by kernel_rfl
def txC (l : List ByteArray) : List Value := l.map .string
theorem txC_snoc (l : List ByteArray) (t : ByteArray) : txC l ++ [.string t] = txC (l ++ [t]) := by simp [txC]
theorem txC_at {l : List ByteArray} {k : Nat} {t : ByteArray} (h : l[k]? = some t) : (txC l)[k]? = some (.string t) := by simp [txC, h]

/-! ### A sender -/
abbrev snO (s : Sn) (v : Value) : Obj := .cells #[v, .int .i64 s.done, .int .i64 s.win, .int .i64 s.res, .int .i64 s.said, .int .i64 s.timer] 88
def sn1 (S : Nat) (s : Sn) (v : Value) : List Thing1 := [Blk1 S (snO s v), Row1 9 1 v s.texts.length (txC s.texts)]
abbrev snL (S : Nat) (s : Sn) (v : Value) : List Thing := [BlkT S (snO s v), RowT 9 1 v s.texts.length (txC s.texts)]
theorem sn1_own (S : Nat) (s : Sn) (v : Value) : (sn1 S s v).map own = snL S s v := rfl
theorem sn1_loc (S : Nat) (s : Sn) (v : Value) : ∀ A, A ∈ sn1 S s v → Loc1 A := by
  intro A hA
  simp only [sn1, List.mem_cons, List.not_mem_nil, or_false] at hA
  rcases hA with rfl | rfl
  · exact inferInstance
  · exact inferInstance
def Sn1 (S : Nat) (s : Sn) : Thing1 := fun w F => ∃ v : Value, Pack1 (sn1 S s v) w F
def SnT (S : Nat) (s : Sn) : Thing := own (Sn1 S s)
instance (S : Nat) (s : Sn) : Loc1 (Sn1 S s) where
  keep := fun ⟨v, h2⟩ hF hd => ⟨v, h2.keep hF hd⟩
  lt := fun ⟨v, h2⟩ x hx => h2.lt x hx

theorem set_bh {α : Type} (R L : List α) (k : Nat) (x : α) : (R ++ L).set (R.length + k) x = R ++ L.set k x := by
  rw [List.set_append_right _ _ (by omega), Nat.add_sub_cancel_left]

section
variable {W : Base} {w : World} {R : List Thing}
theorem St.nilRow (H : St W w R) (e : TypeId) (size : Nat) : St W w (R ++ [RowT e size (.slice none 0 0) 0 []]) :=
  H.new (A := Row1 e size (.slice none 0 0) 0 []) (F := []) (Fr.refl _ _) inferInstance ⟨rfl, World.ownsRow_nil _ _ _ _⟩ (by simp)
theorem St.sn (H : St W w R) (i : Nat) {S : Nat} {s : Sn} (hi : R[i]? = some (SnT S s)) : ∃ v : Value, St W w (R.set i NilT ++ snL S s v) := by
  obtain ⟨F, ⟨v, h2⟩, h3⟩ := H.unpackG i hi
  refine ⟨v, ?_⟩
  have h := h3 _ h2
  rwa [sn1_own] at h
theorem St.snBack {i S : Nat} {s : Sn} {v : Value} (hil : i < R.length) (H : St W w (R.set i NilT ++ snL S s v)) : St W w (R.set i (SnT S s)) := by
  rw [← sn1_own] at H
  have h := H.packG i (List.getElem?_set_self hil) (sn1_loc _ _ _) (B := Sn1 S s) (fun F hP => ⟨v, hP⟩)
  rwa [List.set_set] at h
theorem St.snEnd {S : Nat} {s : Sn} {v : Value} (H : St W w (R ++ snL S s v)) : St W w (R ++ [SnT S s]) := by
  rw [← sn1_own] at H
  exact H.packEnd (sn1_loc _ _ _) (B := Sn1 S s) (fun F hP => ⟨v, hP⟩)

theorem st_snew (H : St W w R) (win res : Nat) (h1 : 1 ≤ win ∧ win ≤ 8) (h2 : 1 ≤ res ∧ res ≤ 16) :
    Calls Tryz.prog 12 #[.int .i64 win, .int .i64 res] w fun e w' => ∃ S, e = .returned (.tuple #[ptr S, .int .i64 0]) ∧ St W w' (R ++ [SnT S (.new win res)]) := by
  have HE := hid (show St W (w.alloc (snO (.new win res) (.slice none 0 0))) (R ++ [SnT w.heap.size (.new win res)]) from by
    have h := (H.alloc (snO (.new win res) (.slice none 0 0))).nilRow 9 1
    rw [List.append_assoc] at h
    exact St.snEnd (v := .slice none 0 0) h)
  clear H
  have g1 : ¬ (win : Int) < 1 := by omega
  have g2 : ¬ (8 : Int) < win := by omega
  have g3 : ¬ (res : Int) < 1 := by omega
  have g4 : ¬ (16 : Int) < res := by omega
  clear h1 h2
  go_enter Tryz.func12, Tryz.ntmps12
  go_wp2_with fail
  go_ret2
  exact ⟨_, rfl, HE.out⟩
theorem st_slen (H : St W w R) (i : Nat) {S : Nat} {s : Sn} (hi : R[i]? = some (SnT S s)) :
    Calls Tryz.prog 39 #[ptr S] w fun e w' => e = .returned (.int .i64 s.texts.length) ∧ w = w' := by
  obtain ⟨v, H2⟩ := H.sn i hi
  have hb := H2.blk _ (get_behind _ _ 0)
  have hr := H2.row _ (get_behind _ _ 1)
  have x0 := cell_blk (i := 0) hb rfl
  obtain ⟨a, c, rfl⟩ : ∃ a c, v = .slice a s.texts.length c := by
    rcases ownsRow_one hr with ⟨h1, h2, _⟩ | ⟨g, cap, h1, h2, _⟩
    · exact ⟨none, 0, by rw [h1, h2]⟩
    · exact ⟨_, _, h1⟩
  clear H H2 hb hr hi
  go_enter Tryz.func39, Tryz.ntmps39
  go_wp2
  go_ret
  exact ⟨rfl, rfl⟩
theorem st_sacked (H : St W w R) (i : Nat) {S : Nat} {s : Sn} (hi : R[i]? = some (SnT S s)) :
    Calls Tryz.prog 11 #[ptr S] w fun e w' => e = .returned (.int .i64 s.done) ∧ w = w' := by
  obtain ⟨v, H2⟩ := H.sn i hi
  have hb := H2.blk _ (get_behind _ _ 0)
  have x1 := cell_blk (i := 1) hb rfl
  clear H H2 hb hi
  go_enter Tryz.func11, Tryz.ntmps11
  go_wp2
  go_ret
  exact ⟨rfl, rfl⟩
theorem st_stick (H : St W w R) (i : Nat) {S : Nat} {s : Sn} (hi : R[i]? = some (SnT S s)) (ht : s.timer ≤ 16) :
    Calls Tryz.prog 25 #[ptr S] w fun e w' => e = .returned (.tuple #[]) ∧ St W w' (R.set i (SnT S s.tick)) := by
  obtain ⟨v, H2⟩ := H.sn i hi
  have hil := lt_of_get hi
  have hb := H2.blk _ (get_behind _ _ 0)
  have x5 := cell_blk (i := 5) hb rfl
  have f5 := free_blk (i := 5) hb
  have HB := hid (H2.setBlk _ (get_behind _ _ 0) 5 (.int .i64 (s.timer - 1 : Nat)))
  have hm : max 0 ((s.timer : Int) - 1) = ((s.timer - 1 : Nat) : Int) := by omega
  have hmm : max (0 : Int) (wrap64 ((s.timer : Int) - 1)) = ((s.timer - 1 : Nat) : Int) := by rw [IntWalk.wrap64_in _ (by omega)]; exact hm
  obtain ⟨t1, ht1⟩ : ∃ t1, ((s.timer - 1 : Nat) : Int) = t1 := ⟨_, rfl⟩
  rw [ht1] at hm hmm HB
  have HT := hid ht1
  have hil := hid hil
  clear H H2 hb hi ht1
  go_enter Tryz.func25, Tryz.ntmps25
  go_wp2_with fail
  go_end0
  have h := HB.out
  rw [set_bh] at h
  rw [← HT.out] at h ⊢
  exact ⟨rfl, St.snBack (s := s.tick) (v := v) hil.out h⟩

set_option maxHeartbeats 1600000 in
theorem st_sput_no (H : St W w R) (i : Nat) {S : Nat} {s : Sn} (hi : R[i]? = some (SnT S s)) (t : ByteArray) (hc : s.canPut t = false) :
    Calls Tryz.prog 19 #[ptr S, .string t] w fun e w' => ∃ z : Int, e = .returned (.int .i64 z) ∧ z ≠ 0 ∧ St W w' R := by
  have HL := hid (st_slen H i hi)
  have H0 := hid H
  clear H
  by_cases h1 : t.size ≤ 32
  · have h2 : ¬ s.texts.length < 32 := by
      intro h2
      simp [Sn.canPut, h1, h2] at hc
    have g1 : ¬ (32 : Int) < t.size := by omega
    have g2 : (32 : Int) ≤ s.texts.length := by omega
    clear h1 h2 hc hi
    go_enter Tryz.func19, Tryz.ntmps19
    go_wp2_with (go_at_call 39; refine HL.out.mono ?_; rintro e w1 ⟨rfl, rfl⟩)
    go_wp2_with fail
    go_ret
    exact ⟨_, rfl, by decide, H0.out⟩
  · have g1 : (32 : Int) < t.size := by omega
    clear h1 hc hi
    go_enter Tryz.func19, Tryz.ntmps19
    go_wp2_with fail
    go_ret
    exact ⟨_, rfl, by decide, H0.out⟩

set_option maxHeartbeats 1600000 in
theorem st_sput (H : St W w R) (i : Nat) {S : Nat} {s : Sn} (hi : R[i]? = some (SnT S s)) (t : ByteArray) (hc : s.canPut t = true) :
    Calls Tryz.prog 19 #[ptr S, .string t] w fun e w' => e = .returned (.int .i64 0) ∧ St W w' (R.set i (SnT S (s.put t))) := by
  simp only [Sn.canPut, Bool.and_eq_true, decide_eq_true_eq] at hc
  obtain ⟨h1, h2⟩ := hc
  obtain ⟨i0, hi0, hz0, hz1, hz2⟩ := info_parts info_tx
  have HI := hid (And.intro hi0 (And.intro hz0 (And.intro hz1 hz2)))
  clear hi0 hz0 hz1 hz2
  have HL := hid (st_slen H i hi)
  obtain ⟨v, H2⟩ := H.sn i hi
  have hil := hid (lt_of_get hi)
  have hb := H2.blk _ (get_behind _ _ 0)
  have hr := H2.row _ (get_behind _ _ 1)
  have x0 := cell_blk (i := 0) hb rfl
  have f0 := free_blk (i := 0) hb
  obtain ⟨a, c, rfl⟩ : ∃ a c, v = .slice a s.texts.length c := by
    rcases ownsRow_one hr with ⟨h1, h2, _⟩ | ⟨g, cap, h1, h2, _⟩
    · exact ⟨none, 0, by rw [h1, h2]⟩
    · exact ⟨_, _, h1⟩
  have H4 := hid (show St W (w.alloc (.cells #[.string t] 9)) (R.set i NilT ++ [BlkT S (snO s (.slice a s.texts.length c)), RowT 9 1 (.slice a s.texts.length c) s.texts.length (txC s.texts), BlkT w.heap.size (.cells #[.string t] 9)]) from by
    have h := H2.alloc (.cells #[.string t] 9)
    rw [List.append_assoc] at h; exact h)
  have g1 : ¬ (32 : Int) < t.size := by omega
  have g2 : (s.texts.length : Int) < 32 := by omega
  have HM := hid (show s.texts.length + 1 ≤ maxLen ∧ (s.texts.length + 1) * 16 ≤ 140737488355328 from by unfold maxLen; omega)
  clear H H2 hb hr hi h1 h2
  go_enter Tryz.func19, Tryz.ntmps19
  go_wp2_with fail
  refine HL.out.mono ?_
  rintro e w1 ⟨rfl, rfl⟩
  go_wp2_with (at_builtin; refine wpAdded H4.out ((R.set i NilT).length + 1) rfl (.tmp 18) (.tmp 20) 32 rfl 9 i0 (.string ByteArray.empty) 1 16 Tryz.underlying32 HI.out.1 HI.out.2.1 HI.out.2.2.1 HI.out.2.2.2 rfl (by decide) (.slice a s.texts.length c) s.texts.length (txC s.texts) (by rw [get_behind]; rfl) rfl (some ⟨w.heap.size, 0, none⟩) 1 1 (fun q => ([.string t] : List Value).getD q undef) rfl (H4.out.blkIn ((R.set i NilT).length + 2) 1 1 rfl (by decide) (by rw [get_behind]; rfl)) (fun j hj => by (obtain rfl : j = 0 := by omega); rfl) HM.out.1 HM.out.2 ?_)
  intro a5 c5 w5 H5
  rw [txC_snoc] at H5
  have hb5 := H5.blk _ (get_behind _ _ 0)
  have y0 := cell_blk (i := 0) hb5 rfl
  have k0 := free_blk (i := 0) hb5
  have H6 := H5.setBlk _ (get_behind _ _ 0) 0 (.slice a5 (s.texts.length + 1) c5)
  rw [set_bh] at H6
  have H6 := hid H6
  clear H5 hb5 x0 f0
  go_wp2_with fail
  go_ret
  refine ⟨rfl, ?_⟩
  have h : St W _ (R.set i NilT ++ ([BlkT S (snO (s.put t) (.slice a5 (s.texts.length + 1) c5)), RowT 9 1 (.slice a5 (s.texts.length + 1) c5) (s.texts.length + 1) (txC (s.texts ++ [t]))] ++ [BlkT w.heap.size (.cells #[.string t] 9)])) := H6.out
  rw [← List.append_assoc] at h
  have h2 := h.drop
  have e6 : s.texts.length + 1 = (s.put t).texts.length := by simp [Sn.put]
  rw [e6] at h2 h ⊢
  exact St.snBack (s := s.put t) hil.out h2

set_option maxHeartbeats 1600000 in
theorem st_sack (H : St W w R) (i : Nat) {S : Nat} {s : Sn} (hi : R[i]? = some (SnT S s)) (c : Nat) :
    Calls Tryz.prog 46 #[ptr S, .int .i64 c] w fun e w' => e = .returned (.bool (s.ackOk c)) ∧ St W w' (R.set i (SnT S (s.ack c))) := by
  have HL := hid (fun w' (hF : Fr [] w w') => st_slen (H.same hF) i hi)
  have HA := hid (st_sacked H i hi)
  have hil := hid (lt_of_get hi)
  have HN := hid (H.set_self hi)
  obtain ⟨v, H2⟩ := H.sn i hi
  have hb := H2.blk _ (get_behind _ _ 0)
  have x4 := cell_blk (i := 4) hb rfl
  have f1 := free_blk (i := 1) hb
  have f5 := free_blk (i := 5) hb
  have x1 := cell_blk (i := 1) hb rfl
  have x5 := cell_blk (i := 5) hb rfl
  unfold Sn.ack
  by_cases h1 : (c : Int) ≤ s.done
  · have e1 : s.ackOk c = false := by simp [Sn.ackOk]; omega
    rw [e1]
    clear H H2 hb hi e1
    go_enter Tryz.func46, Tryz.ntmps46
    go_wp2_with (go_at_call 11; refine HA.out.mono ?_; rintro e w1 ⟨rfl, rfl⟩)
    go_wp2_with fail
    go_ret
    exact ⟨rfl, HN.out⟩
  · by_cases h2 : (s.said : Int) < c
    · have e1 : s.ackOk c = false := by simp [Sn.ackOk]; omega
      rw [e1]
      clear H H2 hb hi e1
      go_enter Tryz.func46, Tryz.ntmps46
      go_wp2_with (go_at_call 11; refine HA.out.mono ?_; rintro e w1 ⟨rfl, rfl⟩)
      go_wp2_with fail
      go_ret
      exact ⟨rfl, HN.out⟩
    · have e1 : s.ackOk c = true := by simp [Sn.ackOk]; omega
      rw [e1, if_pos rfl]
      obtain ⟨s', hs'⟩ : ∃ s', ({ s with done := c, timer := if c = s.texts.length then 0 else s.timer } : Sn) = s' := ⟨_, rfl⟩
      rw [hs']
      have H3 := H2.setBlk _ (get_behind _ _ 0) 1 (.int .i64 c)
      rw [set_bh] at H3
      have HB1 : St W (w.setCell ⟨S, 1, none⟩ (.int .i64 c)) (R.set i NilT ++ snL S { s with done := c } v) := H3
      have HS := hid (st_slen (St.snBack (s := { s with done := c }) (v := v) (lt_of_get hi) HB1) i (List.getElem?_set_self (lt_of_get hi)))
      have hb1 := HB1.blk _ (get_behind _ _ 0)
      have y5 := cell_blk (i := 5) hb1 rfl
      have k5 := free_blk (i := 5) hb1
      by_cases h3 : c = s.texts.length
      · have h4 : (c : Int) = s.texts.length := by omega
        have H4 := HB1.setBlk _ (get_behind _ _ 0) 5 (.int .i64 0)
        rw [set_bh] at H4
        have HF := hid (show St W ((w.setCell ⟨S, 1, none⟩ (.int .i64 c)).setCell ⟨S, 5, none⟩ (.int .i64 0)) (R.set i (SnT S s')) from by
          rw [← hs', if_pos h3]
          exact St.snBack (s := { s with done := c, timer := 0 }) (v := v) hil.out H4)
        have hbq : ((c : Int) == s.texts.length) = true := by rw [beq_iff_eq]; exact h4
        clear H H2 hb hi H3 HB1 hb1 H4 e1 h4 hs'
        subst h3
        go_enter Tryz.func46, Tryz.ntmps46
        go_wp2_with (go_at_call 11; refine HA.out.mono ?_; rintro e w1 ⟨rfl, rfl⟩)
        go_wp2_with (go_at_call 39; refine HS.out.mono ?_; rintro e w1 ⟨rfl, rfl⟩)
        go_wp2_with fail
        go_ret
        exact ⟨rfl, HF.out⟩
      · have hbq : ((c : Int) == s.texts.length) = false := by rw [beq_eq_false_iff_ne]; omega
        have HF := hid (show St W (w.setCell ⟨S, 1, none⟩ (.int .i64 c)) (R.set i (SnT S s')) from by
          rw [← hs', if_neg h3]
          exact St.snBack (s := { s with done := c }) (v := v) hil.out HB1)
        clear H H2 hb hi H3 HB1 hb1 e1 h3 hs'
        go_enter Tryz.func46, Tryz.ntmps46
        go_wp2_with (go_at_call 11; refine HA.out.mono ?_; rintro e w1 ⟨rfl, rfl⟩)
        go_wp2_with (go_at_call 39; refine HS.out.mono ?_; rintro e w1 ⟨rfl, rfl⟩)
        go_wp2_with fail
        go_ret
        exact ⟨rfl, HF.out⟩
end

end Go.Proofs.YtkiccbjngokpjaaGreat

/-
  chunks: window, Due.
-/
namespace Go.Proofs.YtkiccbjngokpjaaGreat
open Go.RowKit
set_option linter.unusedVariables false
set_option linter.unusedSimpArgs false

section
variable {W : Base} {w : World} {R : List Thing}
/-- What a window of a row is. -/
def winV (s : Sn) : Value → Value
  | .slice (some ad) _ _ => if s.hi = s.done then .slice (some ad) 0 0 else .slice (some ⟨ad.block, s.done, none⟩) (s.hi - s.done) (s.hi - s.done)
  | v => v
set_option maxHeartbeats 1600000 in
theorem st_window {S : Nat} {s : Sn} {v : Value} (H : St W w (R ++ snL S s v)) (hd : s.done ≤ s.texts.length) (hl : s.texts.length ≤ 32) (hw : s.win ≤ 8) :
    Calls Tryz.prog 40 #[ptr S, .int .i64 s.win] w fun e w' => e = .returned (winV s v) ∧ ∃ m, w' = w.drewN m := by
  have hb := H.blk _ (get_behind _ _ 0)
  have hr := H.row _ (get_behind _ _ 1)
  have x0 := cell_blk (i := 0) hb rfl
  have x1 := cell_blk (i := 1) hb rfl
  rcases ownsRow_one hr with ⟨h1, h2, h3⟩ | ⟨g, cap, h1, h2, h3⟩
  · subst h1
    have hd0 : s.done = 0 := by omega
    have hh : s.hi - s.done = 0 := by unfold Sn.hi; omega
    rw [hd0] at x1
    have h0 : (0 : Int) ≤ s.win := by omega
    have hm : min (0 : Int) (s.win) = 0 := by omega
    have HH := hid hh
    clear H hb hr hd hl h2 h3 hd0 hh
    go_enter Tryz.func40, Tryz.ntmps40
    go_wp2_with fail
    go_quiet (fail)
    go_wp2_with fail
    go_quiet (fail)
    go_wp2_with fail
    go_ret
    exact ⟨rfl, _, World.drewN_drewN _ _ _⟩
  · subst h1
    have hm : min (s.texts.length : Int) ((s.done : Int) + s.win) = (s.hi : Nat) := by
      unfold Sn.hi; omega
    have hh1 : s.done ≤ s.hi := by unfold Sn.hi; omega
    have hh2 : s.hi ≤ s.texts.length := Nat.min_le_left _ _
    have HV := hid (show winV s (.slice (some ⟨g, 0, none⟩) s.texts.length cap) = if s.hi = s.done then .slice (some ⟨g, 0, none⟩) 0 0 else .slice (some ⟨g, s.done, none⟩) (s.hi - s.done) (s.hi - s.done) from rfl)
    obtain ⟨hv, hh⟩ : ∃ hv, s.hi = hv := ⟨_, rfl⟩
    rw [hh] at hm hh1 hh2 HV
    have k1 : (s.done : Int) ≤ hv := by omega
    have k2 : (hv : Int) ≤ cap := by omega
    clear H hb hr hh
    go_enter Tryz.func40, Tryz.ntmps40
    go_wp2_with fail
    go_quiet (fail)
    go_wp2_with fail
    go_quiet (fail)
    go_wp2_with fail
    · go_ret
      refine ⟨?_, _, rfl⟩
      rw [HV.out, if_pos h]
      rfl
    · go_ret
      refine ⟨?_, _, rfl⟩
      rw [HV.out, if_neg h]
      rfl

/-! ### Items -/
theorem info_it : (Tryz.prog.info? 111).map (fun i => (i.zero, i.size, i.bytes)) = some (some (.agg #[.int .i64 0, .string ByteArray.empty]), 2, 24) := by kernel_rfl
def iL : Lay (Nat × ByteArray) := ⟨fun p => [.int .i64 p.1, .string p.2], (0, ⟨#[]⟩), 2, fun _ => rfl, by decide, fun a u hu => by simp at hu; rcases hu with rfl | rfl <;> rfl⟩

theorem Sn.itemsTo_len (s : Sn) (j : Nat) : (s.itemsTo j).length ≤ j := by
  unfold Sn.itemsTo
  rw [List.length_map]
  have := List.length_filter_le s.isDue (List.range j)
  rwa [List.length_range] at this
theorem acked_blk {S : Nat} {s : Sn} {v : Value} (hb : w.heap[S]? = some (snO s v)) :
    Calls Tryz.prog 11 #[ptr S] w fun e w' => e = .returned (.int .i64 s.done) ∧ w = w' := by
  have x1 := cell_blk (i := 1) hb rfl
  clear hb
  go_enter Tryz.func11, Tryz.ntmps11
  go_wp2
  go_ret
  exact ⟨rfl, rfl⟩

theorem St.snMid {i S : Nat} {s : Sn} {v : Value} {T : Thing} (hil : i < R.length) (H : St W w (R.set i NilT ++ (snL S s v ++ [T]))) : St W w (R.set i (SnT S s) ++ [T]) := by
  have h1 : St W w ((R.set i NilT ++ [T]) ++ snL S s v) := H.perm (by
    rw [List.append_assoc]
    exact List.Perm.append_left _ List.perm_append_comm)
  rw [← sn1_own] at h1
  have hil2 : i < (R.set i NilT).length := by rw [List.length_set]; exact hil
  have h2 := h1.packG i (by rw [List.getElem?_append_left hil2]; exact List.getElem?_set_self hil) (sn1_loc _ _ _) (B := Sn1 S s) (fun F hP => ⟨v, hP⟩)
  rw [List.set_append_left _ _ hil2, List.set_set] at h2
  exact h2

set_option maxHeartbeats 8000000 in
theorem st_sdue (H : St W w R) (i : Nat) {S : Nat} {s : Sn} (hi : R[i]? = some (SnT S s)) (hd : s.done ≤ s.texts.length) (hl : s.texts.length ≤ 32) (hw : s.win ≤ 8) :
    Calls Tryz.prog 20 #[ptr S] w fun e w' => ∃ v, e = .returned v ∧ St W w' (R.set i (SnT S s.due) ++ [RowT 111 2 v s.items.length (iL.cells s.items)]) := by
  obtain ⟨v, H2⟩ := H.sn i hi
  have hil := hid (lt_of_get hi)
  have HW := hid (fun n => st_window (H2.same ((Fr.refl _ w).drewN n)) hd hl hw)
  have hb := H2.blk _ (get_behind _ _ 0)
  have x2 := cell_blk (i := 2) hb rfl
  have hh1 : s.done ≤ s.hi := by unfold Sn.hi; omega
  have hh2 : s.hi ≤ s.texts.length := Nat.min_le_left _ _
  obtain ⟨a0, c0, hwv, hwa⟩ : ∃ a0 c0, winV s v = .slice a0 (s.hi - s.done : Nat) c0 ∧ (s.done < s.hi → ∃ g cap, v = .slice (some ⟨g, 0, none⟩) s.texts.length cap ∧ a0 = some ⟨g, s.done, none⟩) := by
    rcases ownsRow_one (H2.row _ (get_behind _ _ 1)) with ⟨h1, h2, h3⟩ | ⟨g, cap, h1, h2, h3⟩
    · subst h1
      have hh : s.hi - s.done = 0 := by omega
      exact ⟨none, 0, by rw [hh]; rfl, fun h => by omega⟩
    · subst h1
      by_cases he : s.hi = s.done
      · refine ⟨some ⟨g, 0, none⟩, 0, ?_, fun h => by omega⟩
        have e1 : winV s (.slice (some ⟨g, 0, none⟩) s.texts.length cap) = if s.hi = s.done then .slice (some ⟨g, 0, none⟩) 0 0 else .slice (some ⟨g, s.done, none⟩) (s.hi - s.done) (s.hi - s.done) := rfl
        rw [e1, if_pos he, he, Nat.sub_self]
      · refine ⟨some ⟨g, s.done, none⟩, s.hi - s.done, ?_, fun h => ⟨g, cap, rfl, rfl⟩⟩
        have e1 : winV s (.slice (some ⟨g, 0, none⟩) s.texts.length cap) = if s.hi = s.done then .slice (some ⟨g, 0, none⟩) 0 0 else .slice (some ⟨g, s.done, none⟩) (s.hi - s.done) (s.hi - s.done) := rfl
        rw [e1, if_neg he]
  rw [hwv] at HW
  obtain ⟨n0, hn0⟩ : ∃ n0, s.hi - s.done = n0 := ⟨_, rfl⟩
  rw [hn0] at HW
  have hwa := hid hwa
  have HH := hid (And.intro hh1 (And.intro hh2 (And.intro hd (And.intro hl hn0))))
  clear H hb hi hwv hh1 hh2 hd hl hw hn0
  go_enter Tryz.func20, Tryz.ntmps20
  go_wp2_with fail
  go_quiet ((go_at_call 40; refine (HW.out _).mono ?_; rintro e w1 ⟨rfl, m, rfl⟩; refine ⟨rfl, _, World.drewN_drewN _ _ _⟩))
  have H3 := hid (show St W (w.drewN nq) (R.set i NilT ++ (snL S s v ++ [RowT 111 2 (.slice none 0 0) (s.itemsTo 0).length (iL.cells (s.itemsTo 0))])) from by
    have h := (H2.same ((Fr.refl _ w).drewN nq)).nilRow 111 2
    rw [List.append_assoc] at h
    exact h)
  clear H2 HW x2
  obtain ⟨i0, hi0, hz0, hz1, hz2⟩ := info_parts info_it
  have HI := hid (And.intro hi0 (And.intro hz0 (And.intro hz1 hz2)))
  clear hi0 hz0 hz1 hz2
  go_wp2_with fail
  go_loopw [3, 16] (fun lx jv wr => ∃ (j : Nat) (lv : Value), j ≤ n0 ∧ lx = lv ∧ jv = .int .i64 j ∧ St W wr (R.set i NilT ++ (snL S s v ++ [RowT 111 2 lv (s.itemsTo j).length (iL.cells (s.itemsTo j))]))) (fun _ jv _ => n0 - (intOf jv).toNat)
  case atStart => exact ⟨0, _, Nat.zero_le _, rfl, rfl, H3.out⟩
  case round =>
    obtain ⟨j, lv, hj, rfl, rfl, HJ⟩ := hrel
    by_cases hlt : j < n0
    · obtain ⟨hh1, hh2, hd, hl, hn0⟩ := HH.out
      obtain ⟨g, cap, rfl, rfl⟩ := hwa.out (by omega)
      obtain ⟨t, ht⟩ : ∃ t, s.texts[s.done + j]? = some t := ⟨_, List.getElem?_eq_getElem (by omega)⟩
      have htd : s.texts.getD (s.done + j) ⟨#[]⟩ = t := by rw [List.getD_eq_getElem?_getD, ht]; rfl
      have hb := HJ.blk _ (get_behind _ _ 0)
      have hr := HJ.row _ (get_behind _ _ 1)
      have y0 := (ownsRow_cell hr (s.done + j) (txC_at ht)).1
      have x4 := cell_blk (i := 4) hb rfl
      have x5 := cell_blk (i := 5) hb rfl
      have HA := hid (acked_blk hb)
      have hlt2 : (j : Int) < n0 := by omega
      have k1 : (s.done : Int) ≤ 32 := by omega
      have k2 : (j : Int) ≤ 32 := by omega
      have HB := hid (show St W (wr.alloc (.cells #[.int .i64 ((s.done : Int) + j), .string t] 111)) (R.set i NilT ++ [BlkT S (snO s (.slice (some ⟨g, 0, none⟩) s.texts.length cap)), RowT 9 1 (.slice (some ⟨g, 0, none⟩) s.texts.length cap) s.texts.length (txC s.texts), RowT 111 2 u3 (s.itemsTo j).length (iL.cells (s.itemsTo j)), BlkT wr.heap.size (.cells #[.int .i64 ((s.done : Int) + j), .string t] 111)]) from by
        have h := HJ.alloc (.cells #[.int .i64 ((s.done : Int) + j), .string t] 111)
        rw [List.append_assoc] at h
        exact h)
      have HIL := hid (show (s.itemsTo j).length ≤ 32 from by
        have := s.itemsTo_len j
        omega)
      have HS := hid (Sn.itemsTo_succ s j)
      rw [htd] at HS
      have HN := hid (And.intro hlt (show n0 ≤ 32 from by omega))
      have HJ := hid HJ
      clear hh1 hh2 hd hl hn0 ht htd hb hr hj hlt
      cases ht0 : ((s.timer : Int) == 0) with
      | true =>
        have hdue : s.isDue j = true := by
          have h1 : s.timer = 0 := by simpa using ht0
          unfold Sn.isDue
          simp [h1]
        have HE := hid (HS.out.trans (if_pos hdue))
        clear HS
        go_wp2_with fail
        refine HA.out.mono ?_
        rintro e w1 ⟨rfl, rfl⟩
        go_wp2_with (at_builtin; refine wpAdded HB.out ((R.set i NilT).length + 2) rfl (.tmp 38) (.tmp 42) 65 rfl 111 i0 (.agg #[.int .i64 0, .string ByteArray.empty]) 2 24 Tryz.underlying65 HI.out.1 HI.out.2.1 HI.out.2.2.1 HI.out.2.2.2 rfl (by decide) u3 (s.itemsTo j).length (iL.cells (s.itemsTo j)) (by rw [get_behind]; rfl) rfl (some ⟨wr.heap.size, 0, none⟩) 1 1 (fun q => ([.int .i64 ((s.done : Int) + j), .string t] : List Value).getD q undef) rfl (HB.out.blkIn ((R.set i NilT).length + 3) 2 1 rfl (by decide) (by rw [get_behind]; rfl)) (fun j hj => by (obtain rfl | rfl : j = 0 ∨ j = 1 := by omega) <;> rfl) (by have := HIL.out; unfold maxLen; omega) (by have := HIL.out; omega) ?_)
        intro a5 c5 w5 H5
        have HK : St W w5 (R.set i NilT ++ (snL S s (.slice (some ⟨g, 0, none⟩) s.texts.length cap) ++ [RowT 111 2 (.slice a5 ((s.itemsTo j).length + 1) c5) (s.itemsTo (j + 1)).length (iL.cells (s.itemsTo (j + 1)))])) := by
          rw [HE.out, ← iL.snoc, List.length_append, List.length_singleton]
          have h : St W w5 (R.set i NilT ++ ([BlkT S (snO s (.slice (some ⟨g, 0, none⟩) s.texts.length cap)), RowT 9 1 (.slice (some ⟨g, 0, none⟩) s.texts.length cap) s.texts.length (txC s.texts), RowT 111 2 (.slice a5 ((s.itemsTo j).length + 1) c5) ((s.itemsTo j).length + 1) (iL.cells (s.itemsTo j) ++ [.int .i64 ((s.done : Int) + j), .string t])] ++ [BlkT wr.heap.size (.cells #[.int .i64 ((s.done : Int) + j), .string t] 111)])) := H5
          rw [← List.append_assoc] at h
          exact h.drop
        clear H5 HB HJ
        go_wp2_with fail
        have HK := hid HK
        refine ⟨⟨j + 1, _, by (have := HN.out); omega, rfl, rfl, HK.out⟩, ?_⟩
        show n0 - ((j + 1 : Nat) : Int).toNat < n0 - (j : Int).toNat
        have := HN.out
        omega
      | false =>
        cases hs0 : decide ((s.said : Int) ≤ s.done + j) with
        | true =>
          have hdue : s.isDue j = true := by
            have h2 : s.said ≤ s.done + j := by simp at hs0; omega
            unfold Sn.isDue
            simp [h2]
          have HE := hid (HS.out.trans (if_pos hdue))
          clear HS
          go_wp2_with fail
          refine HA.out.mono ?_
          rintro e w1 ⟨rfl, rfl⟩
          go_wp2_with (at_builtin; refine wpAdded HB.out ((R.set i NilT).length + 2) rfl (.tmp 38) (.tmp 42) 65 rfl 111 i0 (.agg #[.int .i64 0, .string ByteArray.empty]) 2 24 Tryz.underlying65 HI.out.1 HI.out.2.1 HI.out.2.2.1 HI.out.2.2.2 rfl (by decide) u3 (s.itemsTo j).length (iL.cells (s.itemsTo j)) (by rw [get_behind]; rfl) rfl (some ⟨wr.heap.size, 0, none⟩) 1 1 (fun q => ([.int .i64 ((s.done : Int) + j), .string t] : List Value).getD q undef) rfl (HB.out.blkIn ((R.set i NilT).length + 3) 2 1 rfl (by decide) (by rw [get_behind]; rfl)) (fun j hj => by (obtain rfl | rfl : j = 0 ∨ j = 1 := by omega) <;> rfl) (by have := HIL.out; unfold maxLen; omega) (by have := HIL.out; omega) ?_)
          intro a5 c5 w5 H5
          have HK : St W w5 (R.set i NilT ++ (snL S s (.slice (some ⟨g, 0, none⟩) s.texts.length cap) ++ [RowT 111 2 (.slice a5 ((s.itemsTo j).length + 1) c5) (s.itemsTo (j + 1)).length (iL.cells (s.itemsTo (j + 1)))])) := by
            rw [HE.out, ← iL.snoc, List.length_append, List.length_singleton]
            have h : St W w5 (R.set i NilT ++ ([BlkT S (snO s (.slice (some ⟨g, 0, none⟩) s.texts.length cap)), RowT 9 1 (.slice (some ⟨g, 0, none⟩) s.texts.length cap) s.texts.length (txC s.texts), RowT 111 2 (.slice a5 ((s.itemsTo j).length + 1) c5) ((s.itemsTo j).length + 1) (iL.cells (s.itemsTo j) ++ [.int .i64 ((s.done : Int) + j), .string t])] ++ [BlkT wr.heap.size (.cells #[.int .i64 ((s.done : Int) + j), .string t] 111)])) := H5
            rw [← List.append_assoc] at h
            exact h.drop
          clear H5 HB HJ
          go_wp2_with fail
          have HK := hid HK
          refine ⟨⟨j + 1, _, by (have := HN.out); omega, rfl, rfl, HK.out⟩, ?_⟩
          show n0 - ((j + 1 : Nat) : Int).toNat < n0 - (j : Int).toNat
          have := HN.out
          omega
        | false =>
          have hdue : s.isDue j = false := by
            have h1 : ¬ s.timer = 0 := by simpa using ht0
            have h2 : ¬ s.said ≤ s.done + j := by simp at hs0; omega
            unfold Sn.isDue
            simp [h1, h2]
          have HE := hid (HS.out.trans (if_neg (by rw [hdue]; decide)))
          clear HS HB
          go_wp2_with fail
          refine HA.out.mono ?_
          rintro e w1 ⟨rfl, rfl⟩
          go_wp2_with fail
          have HK : St W wr (R.set i NilT ++ (snL S s (.slice (some ⟨g, 0, none⟩) s.texts.length cap) ++ [RowT 111 2 u3 (s.itemsTo (j + 1)).length (iL.cells (s.itemsTo (j + 1)))])) := by
            rw [HE.out]
            exact HJ.out
          have HK := hid HK
          refine ⟨⟨j + 1, _, by (have := HN.out); omega, rfl, rfl, HK.out⟩, ?_⟩
          show n0 - ((j + 1 : Nat) : Int).toNat < n0 - (j : Int).toNat
          have := HN.out
          omega
    · obtain rfl : j = n0 := by omega
      have hit : s.itemsTo j = s.items := by
        unfold Sn.items
        rw [HH.out.2.2.2.2]
      rw [hit] at HJ
      clear hit hlt hj
      have hr := HJ.row _ (get_behind _ _ 2)
      have hb := HJ.blk _ (get_behind _ _ 0)
      rcases hlast : s.items.getLast? with _ | x
      · have hnil : s.items = [] := List.getLast?_eq_none_iff.1 hlast
        have hdu : s.due = s := by unfold Sn.due; rw [hlast]
        obtain ⟨a5, c5, rfl⟩ : ∃ a c, u3 = .slice a 0 c := by
          rcases ownsRow_one hr with ⟨h1, h2, _⟩ | ⟨g, cap, h1, h2, _⟩
          · exact ⟨none, 0, h1⟩
          · rw [hnil] at h1; exact ⟨_, _, h1⟩
        have HF := hid (show St W wr (R.set i (SnT S s.due) ++ [RowT 111 2 (.slice a5 0 c5) s.items.length (iL.cells s.items)]) from by
          rw [hdu]
          exact St.snMid hil.out HJ)
        clear hr hb hlast hnil hdu HJ
        go_wp2_with fail
        go_ret
        exact ⟨_, rfl, HF.out⟩
      · obtain ⟨l0, hl0⟩ : ∃ l0, s.items = l0 ++ [x] := List.getLast?_eq_some_iff.1 hlast
        have hlen : s.items.length = l0.length + 1 := by rw [hl0]; simp
        obtain ⟨g2, c2, rfl, hc2, hc3⟩ : ∃ g cap, u3 = .slice (some ⟨g, 0, none⟩) s.items.length cap ∧ s.items.length ≤ cap ∧ cap ≤ maxLen := by
          rcases ownsRow_one hr with ⟨h1, h2, _⟩ | ⟨g, cap, h1, h2, h3⟩
          · omega
          · exact ⟨_, _, h1, h2, h3⟩
        have hI : (iL.cells s.items)[l0.length * 2]? = some (.int .i64 x.1) := by
          rw [hl0, ← iL.snoc]
          have hcl : (iL.cells l0).length = l0.length * 2 := iL.cells_len l0
          rw [List.getElem?_append_right (by omega), hcl]
          simp [iL]
        have y0 := (ownsRow_cell hr _ hI).1
        have hle : s.items.length ≤ 32 := by
          have h9 := s.itemsTo_len (s.hi - s.done)
          have h8 : s.itemsTo (s.hi - s.done) = s.items := rfl
          rw [h8] at h9
          have := HH.out
          omega
        rw [hlen] at hc2 hle
        have hdu : s.due = { s with said := max s.said (x.1 + 1), timer := if s.timer = 0 then s.res else s.timer } := by unfold Sn.due; rw [hlast]
        obtain ⟨hxh1, hxh2⟩ := Sn.items_last hlast
        have hx32 : (x.1 : Int) ≤ 32 := by have := HH.out; omega
        have hmx : max (s.said : Int) ((x.1 : Int) + 1) = ((max s.said (x.1 + 1) : Nat) : Int) := by omega
        have x4 := cell_blk (i := 4) hb rfl
        have x5 := cell_blk (i := 5) hb rfl
        have x3 := cell_blk (i := 3) hb rfl
        have f4 := free_blk (i := 4) hb
        have f5 := free_blk (i := 5) hb
        have HJ1 := HJ.setBlk _ (get_behind _ _ 0) 4 (.int .i64 (max s.said (x.1 + 1) : Nat))
        rw [set_bh] at HJ1
        obtain ⟨sd, hsd⟩ : ∃ sd, max s.said (x.1 + 1) = sd := ⟨_, rfl⟩
        rw [hsd] at hmx hdu HJ1
        have HM := hid hmx
        have HJ2 := HJ1.setBlk _ (get_behind _ _ 0) 5 (.int .i64 s.res)
        rw [set_bh] at HJ2
        obtain ⟨m, hm⟩ : ∃ m, s.items.length = m := ⟨_, rfl⟩
        rw [hm] at HJ1 HJ2 ⊢
        have HL := hid hm
        have hm2 : m = l0.length + 1 := by omega
        have HF1 := hid (show s.timer ≠ 0 → St W (wr.setCell ⟨S, 4, none⟩ (.int .i64 (sd : Nat))) (R.set i (SnT S s.due) ++ [RowT 111 2 (.slice (some ⟨g2, 0, none⟩) m c2) m (iL.cells s.items)]) from fun h0 => by
          rw [hdu, if_neg h0]
          exact St.snMid (s := { s with said := sd }) (v := v) hil.out HJ1)
        have HF2 := hid (show s.timer = 0 → St W ((wr.setCell ⟨S, 4, none⟩ (.int .i64 (sd : Nat))).setCell ⟨S, 5, none⟩ (.int .i64 s.res)) (R.set i (SnT S s.due) ++ [RowT 111 2 (.slice (some ⟨g2, 0, none⟩) m c2) m (iL.cells s.items)]) from fun h0 => by
          rw [hdu, if_pos h0]
          exact St.snMid (s := { s with said := sd, timer := s.res }) (v := v) hil.out HJ2)
        have hHM := hid hm2
        generalize l0.length = k0 at *
        clear hr hb hlast hdu HJ hl0 hI HJ1 HJ2 hsd hmx hxh1 hxh2 hm2
        have hm3 : (m : Int) - 1 = k0 := by have := hHM.out; omega
        have hm4 : (0 : Int) < m := by have := hHM.out; omega
        have hm5 : (m : Int) ≤ c2 := by have := hHM.out; omega
        have hm6 : (k0 : Int) < m := by have := hHM.out; omega
        have hm7 : (m : Int) ≤ 33 := by have := hHM.out; omega
        go_wp2_with fail
        go_region
        cases ht0 : ((s.timer : Int) == 0) with
        | true =>
          have h0 : s.timer = 0 := by simpa using ht0
          have HF := hid (HF2.out h0)
          clear HF1 HF2
          have ht0 := hid ht0
          go_wp2_with fail
          go_ret
          refine ⟨_, rfl, ?_⟩
          rw [HM.out, HL.out]
          exact HF.out.same ((Fr.refl _ _).drew)
        | false =>
          have h0 : s.timer ≠ 0 := by simpa using ht0
          have HF := hid (HF1.out h0)
          clear HF1 HF2 h0
          go_wp2_with fail
          go_ret
          refine ⟨_, rfl, ?_⟩
          rw [HM.out, HL.out]
          exact HF.out.same ((Fr.refl _ _).drew)
end

end Go.Proofs.YtkiccbjngokpjaaGreat
