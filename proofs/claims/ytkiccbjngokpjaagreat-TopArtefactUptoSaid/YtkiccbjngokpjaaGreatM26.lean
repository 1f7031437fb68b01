/-
  Merged, in build order: Sp Sq.
-/
import Derived.OwnWalk
import Derived.Test.YtkiccbjngokpjaaGreatM24
import Derived.Test.YtkiccbjngokpjaaGreatM14
/-
  sink: Put.
-/
namespace Go.Proofs.YtkiccbjngokpjaaGreat
open Go.RowKit
set_option linter.unusedVariables false
set_option linter.unusedSimpArgs false

section
variable {W : Base} {w : World} {R : List Thing}
/-- append of some behind a row that was clipped: the row is a new one. -/
theorem wpClipped {P : Program} {ops : Array Oper} {rest : List Oper} {o : Oper} {a : Act} {Q : Exit → Act → World → Prop} (H : St W w R) (hgd : o.guard = none) (s x : Operand) (t : TypeId)
    (ho : o.op = .call { callee := .builtin .append, args := #[s, x], argTypes := #[t, t] })
    (e : TypeId) (i : TypeInfo) (z : Value) (size bytes : Nat) (ht : P.underlying t = some (.slice e)) (hi : P.info? e = some i) (hz : i.zero = some z)
    (hsize : i.size = size) (hby : i.bytes = bytes) (hzs : z.cells.size = size) (hsz : 0 < size)
    (j : Nat) (ao : Option Addr) (n c0 : Nat) (xs : List Value) (hj : R[j]? = some (RowT e size (.slice ao n c0) n xs)) (hs : a.eval s = .slice ao n n)
    (ad : Addr) (m c : Nat) (news : List Value) (hx : a.eval x = .slice (some ad) m c) (hm : 0 < m) (hl : news.length = m * size) (hnews : ∀ j u, news[j]? = some u → w.cell? (ad.add j) = some u) (h1 : ∀ u ∈ news, u.oneCell' = true)
    (h63 : n + m ≤ maxLen) (hbytes : (n + m) * bytes ≤ 140737488355328)
    (h : ∀ g cap w', St W w' (R ++ [RowT e size (.slice (some ⟨g, 0, none⟩) (n + m) cap) (n + m) (xs ++ news)]) → wpList P ops Q rest (a.put o.dst (.slice (some ⟨g, 0, none⟩) (n + m) cap)) w') : wpList P ops Q (o :: rest) a w := by
  have hrow := H.row j hj
  have hxl := hrow.1
  refine wpList_plain hgd fun K hK => ?_
  have hold : (Builtin.firstCells i.size n (.slice ao n n)).run P w.drew = .ok xs.toArray w.drew := by
    rw [hsize]
    rcases ao with _ | b
    · have hn : n = 0 := by
        rcases ownsRow_one hrow with ⟨_, h2, _⟩ | ⟨g, cap, h2, _⟩
        · exact h2
        · simp at h2
      subst hn
      have hxs : xs = [] := List.eq_nil_of_length_eq_zero (by rw [hxl, Nat.zero_mul])
      subst hxs
      simpa using run_firstCells_none (P := P) w.drew size 0 0 0
    · refine run_firstCells_some w.drew size n b n n _ hxl ?_
      intro k u hu
      rcases ownsRow_one hrow with ⟨h2, _⟩ | ⟨g, cap, h2, _⟩
      · simp at h2
      · simp only [Value.slice.injEq, Option.some.injEq] at h2
        obtain ⟨rfl, _, rfl⟩ := h2
        have e1 : (⟨g, 0, none⟩ : Addr).add k = ⟨g, k, none⟩ := by unfold Addr.add; by_cases hk : k = 0 <;> simp [hk]
        rw [e1]
        exact (ownsRow_cell hrow k hu).1
  have hr := run_append_grow_src (P := P) w t t o.type e i z ht hi hz ao n n _ hold (.slice (some ad) m c) m news (by rw [hsize]; exact Src.ofSlice w ht ad m c news hl hnews h1) (by omega) (by unfold maxLen at h63; omega) (growslice_fits (by omega) (by rw [hby]; exact hbytes))
  have hge := grownCap_ge w (n + m) n e
  have hcm : grownCap w (n + m) n e ≤ maxLen := grownCap_le_maxLen w (n + m) n e h63
  have hlen : (xs ++ news).length = (n + m) * size := by rw [List.length_append, hxl, hl, Nat.add_mul]
  have hS : St W (w.drew.alloc (.cells ((xs ++ news).toArray ++ Builtin.zeroCells z.cells (grownCap w (n + m) n e - (n + m))) e)) (R ++ [RowT e size (.slice (some ⟨w.heap.size, 0, none⟩) (n + m) (grownCap w (n + m) n e)) (n + m) (xs ++ news)]) := by
    refine H.new (F := [w.heap.size]) ((Fr.refl [] w).drew.alloc _) inferInstance ⟨rfl, hlen, .inr ⟨w.heap.size, _, _, rfl, Nat.zero_le _, heap_alloc_new w.drew _, hge, hcm, ?_, ?_⟩⟩ (by simp)
    · simp only [Array.size_append, List.size_toArray, size_zeroCells, hzs, hlen, ← Nat.add_mul]
      congr 1
      omega
    · simp only [Array.toList_append, List.append_assoc]
      rw [← List.append_assoc, ← hlen]
      exact List.take_left
  unfold Oper.wp execOp
  simp only [ho, resolve, invoke, builtin, Sem.run_bind, Sem.run_pure, Result.andThen_ok, List.map_toArray, List.map_cons, List.map_nil, hs, hx, hr]
  exact hK _ _ (h _ _ _ hS)

theorem clip_str (a : Option Addr) (n cap : Nat) (w : World) (h1 : n ≤ cap) (h2 : cap ≤ maxLen) :
    Calls Tryz.prog 35 #[.slice a n cap] w fun e w' => e = .returned (.slice a n n) ∧ w = w' := by
  have h3 : (n : Int) ≤ cap := by omega
  go_enter Tryz.func35, Tryz.ntmps35
  go_wp2
  go_ret
  exact ⟨rfl, rfl⟩

theorem kn_low {k : Kn} {b : Nat} : k.low b = true ↔ ∃ B ps, k.held = some (B, ps) ∧ b < B := by
  unfold Kn.low
  rcases k.held with _ | ⟨B, ps⟩
  · simp
  · simp
/-- The badge that a sink has; nothing: 0. -/
def Kn.B (k : Kn) : Nat := match k.held with
  | none => 0
  | some p => p.1
theorem kn_low_B (k : Kn) (b : Nat) : k.low b = decide (b < k.B) := by
  unfold Kn.low Kn.B
  rcases k.held with _ | ⟨B, ps⟩
  · simp
  · rfl

theorem field_av (w : World) (j B : Int) (v : Value) : (Instr.field 41 (.agg #[.int .i64 j, .int .i64 B, v]) 1).run Tryz.prog w = .ok (.int .i64 B) w := by kernel_rfl
/-- Some of the last things, in another order. -/
theorem St.pickEnd {T L : List Thing} (H : St W w (T ++ L)) (l : List Nat) (hn : l.Nodup) (hl : ∀ k ∈ l, k < L.length) : St W w (T ++ l.map (fun k => L.getD k NilT)) := by
  refine H.pick (List.range T.length ++ l.map (T.length + ·)) ?_ (by simp) fun k j hk => ?_
  · rw [List.nodup_append]
    refine ⟨List.nodup_range, ?_, fun a ha b hb e => ?_⟩
    · rw [List.nodup_iff_pairwise_ne, List.pairwise_map]
      exact hn.imp (fun h e => h (by omega))
    · rw [List.mem_range] at ha
      obtain ⟨c, _, rfl⟩ := List.mem_map.1 hb
      omega
  · rcases Nat.lt_or_ge k T.length with h1 | h1
    · rw [List.getElem?_append_left (by simpa using h1), List.getElem?_range h1] at hk
      cases hk
      rw [List.getElem?_append_left h1, List.getElem?_append_left h1]
    · rw [List.getElem?_append_right (by simpa using h1), List.length_range, List.getElem?_map] at hk
      obtain ⟨q, hq, rfl⟩ := Option.map_eq_some_iff.1 hk
      rw [List.getElem?_append_right h1, List.getElem?_map, hq, List.getElem?_append_right (by omega), Nat.add_sub_cancel_left]
      have := hl q (List.mem_of_getElem? hq)
      show some (L.getD q NilT) = L[q]?
      rw [List.getD_eq_getElem?_getD, List.getElem?_eq_getElem this]
      rfl
theorem kn_val {k : Kn} {v : Value} : ∃ j vs, k.val v = .agg #[.int .i64 j, .int .i64 k.B, vs] := by
  unfold Kn.B Kn.val
  rcases k.held with _ | ⟨B, ps⟩
  · exact ⟨_, _, rfl⟩
  · exact ⟨_, _, rfl⟩
set_option maxHeartbeats 3200000 in
set_option maxRecDepth 100000 in
theorem st_kput_low (H : St W w R) (i : Nat) {K : Nat} {k : Kn} {nn : Nat} (hi : R[i]? = some (KnT K k nn)) (b ix : Nat) (t : ByteArray) (hb1 : 1 ≤ b) (hb2 : b ≤ 1099511627776) (hlow : k.low b = true) (ht : t.size ≤ 32) (h0 : ix = 0 → t = ⟨#[]⟩) (hl : k.ps.length ≤ 16) :
    Calls Tryz.prog 17 #[ptr K, .int .i64 1, .int .i64 b, .int .i64 ix, .string t] w fun e w' => e = .returned (.tuple #[.int .i64 0, .bool false, .int .i64 161]) ∧ St W w' R := by
  have HC := hid (st_kcount H i hi b hl)
  have HE := hid H
  obtain ⟨m, v, nv, evs, H2⟩ := H.kn i hi
  obtain ⟨B, ps, hk, hB⟩ := kn_low.1 hlow
  have HK := hid (show ∀ wx, Fr [] w wx → wx.cell? ⟨K, 0, none⟩ = some (.map (some m)) ∧ (Instr.lookup 79 (.map (some m)) (.int .i64 1) false).run Tryz.prog wx = .ok (.agg #[.int .i64 1, .int .i64 B, v]) wx from fun wx hF => by
    have hlk := kn_look (H2.same hF) false
    unfold Kn.val at hlk
    rw [hk] at hlk
    exact ⟨cell_blk (i := 0) ((H2.same hF).blk _ (get_behind _ _ 0)) rfl, hlk⟩)
  have k1 : ¬ (32 : Int) < t.size := by omega
  have k2 : decide ((b : Int) < 1) = false := decide_eq_false (by omega)
  have k3 : decide ((1099511627776 : Int) < b) = false := decide_eq_false (by omega)
  have k4 : decide ((b : Int) < B) = true := decide_eq_true (by omega)
  have h0 := hid h0
  clear H H2 hi hlow hk hb1 hb2 ht hl hB
  have hfa := field_av
  generalize (b : Int) = bi at HC HK k2 k3 k4 ⊢
  generalize (B : Int) = Bi at HK k4
  cases c0 : ((ix : Int) == 0) with
  | false =>
    go_enter Tryz.func17, Tryz.ntmps17
    go_wp2_with fail
    refine HC.out.mono ?_
    rintro e w1 ⟨rfl, hF⟩
    obtain ⟨x0, hlk⟩ := HK.out _ hF
    go_wp2_with fail
    go_ret3
    exact ⟨rfl, HE.out.same hF⟩
  | true =>
    have e9 : t.toList.isEmpty = true := by
      have h : ix = 0 := by simpa using c0
      rw [h0.out h]; simp [ByteArray.toList_eq]
    have hT := hid (h0.out (by simpa using c0))
    go_enter Tryz.func17, Tryz.ntmps17
    go_wp2_with fail
    refine HC.out.mono ?_
    rintro e w1 ⟨rfl, hF⟩
    obtain ⟨x0, hlk⟩ := HK.out _ hF
    go_wp2_with fail
    go_ret3
    exact ⟨rfl, HE.out.same hF⟩

set_option maxHeartbeats 3200000 in
set_option maxRecDepth 100000 in
theorem st_kput_not (H : St W w R) (i : Nat) {K : Nat} {k : Kn} {nn : Nat} (hi : R[i]? = some (KnT K k nn)) (b ix : Nat) (t : ByteArray) (hb1 : 1 ≤ b) (hb2 : b ≤ 1099511627776) (hlow : k.low b = false) (htk : k.takes b ix = false) (ht : t.size ≤ 32) (h0 : ix = 0 → t = ⟨#[]⟩) (hl : k.ps.length ≤ 16) (hix : ix ≤ 16) :
    Calls Tryz.prog 17 #[ptr K, .int .i64 1, .int .i64 b, .int .i64 ix, .string t] w fun e w' => ∃ z1 z3 : Int, e = .returned (.tuple #[.int .i64 z1, .bool false, .int .i64 z3]) ∧ Hid (z3 ≠ 161) ∧ St W w' R := by
  have HC := hid (st_kcount H i hi b hl)
  have HE := hid H
  obtain ⟨m, v, nv, evs, H2⟩ := H.kn i hi
  obtain ⟨vj, vs, hvv⟩ := kn_val (k := k) (v := v)
  have HK := hid (show ∀ wx, Fr [] w wx → wx.cell? ⟨K, 0, none⟩ = some (.map (some m)) ∧ (Instr.lookup 79 (.map (some m)) (.int .i64 1) false).run Tryz.prog wx = .ok (.agg #[.int .i64 vj, .int .i64 k.B, vs]) wx from fun wx hF => by
    have hlk := kn_look (H2.same hF) false
    rw [if_neg (by decide), hvv] at hlk
    exact ⟨cell_blk (i := 0) ((H2.same hF).blk _ (get_behind _ _ 0)) rfl, hlk⟩)
  have k1 : ¬ (32 : Int) < t.size := by omega
  have k2 : decide ((b : Int) < 1) = false := decide_eq_false (by omega)
  have k3 : decide ((1099511627776 : Int) < b) = false := decide_eq_false (by omega)
  have k4 : decide ((b : Int) < k.B) = false := decide_eq_false (by
    rw [kn_low_B] at hlow
    simp at hlow
    omega)
  have hne : ix ≠ k.count b := by
    simp only [Kn.takes, hlow, Bool.not_false, Bool.true_and, decide_eq_false_iff_not] at htk
    exact htk
  have k5 : decide ((ix : Int) < 0) = false := decide_eq_false (by omega)
  have k6 : decide ((16 : Int) < ix) = false := decide_eq_false (by omega)
  have h0 := hid h0
  clear H H2 hi hlow hb1 hb2 ht hl hvv htk hix
  have hfa := field_av
  have HN := hid hne
  generalize (b : Int) = bi at HC HK k2 k3 k4 ⊢
  generalize (k.B : Int) = Bi at HK k4
  cases c0 : ((ix : Int) == 0) with
  | false =>
    by_cases hgt : k.count b < ix
    · have k7 : decide ((k.count b : Int) < ix) = true := decide_eq_true (by omega)
      generalize (k.count b : Int) = ci at HC k7
      generalize (ix : Int) = xi at c0 k5 k6 k7 ⊢
      clear hgt hne
      go_enter Tryz.func17, Tryz.ntmps17
      go_wp2_with fail
      refine HC.out.mono ?_
      rintro e w1 ⟨rfl, hF⟩
      obtain ⟨x0, hlk⟩ := HK.out _ hF
      go_wp2_with fail
      go_ret3
      exact ⟨_, _, rfl, by unfold Hid; decide, HE.out.same hF⟩
    · have k7 : decide ((k.count b : Int) < ix) = false := decide_eq_false (by omega)
      have k8 : decide ((ix : Int) < k.count b) = true := decide_eq_true (by omega)
      generalize (k.count b : Int) = ci at HC k7 k8
      generalize (ix : Int) = xi at c0 k5 k6 k7 k8 ⊢
      clear hgt hne
      go_enter Tryz.func17, Tryz.ntmps17
      go_wp2_with fail
      refine HC.out.mono ?_
      rintro e w1 ⟨rfl, hF⟩
      obtain ⟨x0, hlk⟩ := HK.out _ hF
      go_wp2_with fail
      go_ret3
      exact ⟨_, _, rfl, by unfold Hid; decide, HE.out.same hF⟩
  | true =>
    have e9 : t.toList.isEmpty = true := by
      have h : ix = 0 := by simpa using c0
      rw [h0.out h]; simp [ByteArray.toList_eq]
    have hT := hid (h0.out (by simpa using c0))
    by_cases hgt : k.count b < ix
    · have k7 : decide ((k.count b : Int) < ix) = true := decide_eq_true (by omega)
      generalize (k.count b : Int) = ci at HC k7
      generalize (ix : Int) = xi at c0 k5 k6 k7 ⊢
      clear hgt hne
      go_enter Tryz.func17, Tryz.ntmps17
      go_wp2_with fail
      refine HC.out.mono ?_
      rintro e w1 ⟨rfl, hF⟩
      obtain ⟨x0, hlk⟩ := HK.out _ hF
      go_wp2_with fail
      go_ret3
      exact ⟨_, _, rfl, by unfold Hid; decide, HE.out.same hF⟩
    · have k7 : decide ((k.count b : Int) < ix) = false := decide_eq_false (by omega)
      have k8 : decide ((ix : Int) < k.count b) = true := decide_eq_true (by omega)
      generalize (k.count b : Int) = ci at HC k7 k8
      generalize (ix : Int) = xi at c0 k5 k6 k7 k8 ⊢
      clear hgt hne
      go_enter Tryz.func17, Tryz.ntmps17
      go_wp2_with fail
      refine HC.out.mono ?_
      rintro e w1 ⟨rfl, hF⟩
      obtain ⟨x0, hlk⟩ := HK.out _ hF
      go_wp2_with fail
      go_ret3
      exact ⟨_, _, rfl, by unfold Hid; decide, HE.out.same hF⟩
end

end Go.Proofs.YtkiccbjngokpjaaGreat

/-
  sink: Put, where the piece is admitted.
-/
namespace Go.Proofs.YtkiccbjngokpjaaGreat
open Go.RowKit
set_option linter.unusedVariables false
set_option linter.unusedSimpArgs false

abbrev avO (j b : Int) (v : Value) : Obj := .cells #[.int .i64 j, .int .i64 b, v] 41
abbrev evO (b ix : Int) (t : ByteArray) : Obj := .cells #[.int .i64 13, .int .i64 0, .int .i64 0, .int .i64 0, .int .i64 1, .int .i64 b, .int .i64 ix, .int .i64 0, .int .i64 0, .int .i64 0, .int .u64 0, .string t, .slice none 0 0] 98
def evF (b ix : Int) (t : ByteArray) : List Value := [.int .i64 13, .int .i64 0, .int .i64 0, .int .i64 0, .int .i64 1, .int .i64 b, .int .i64 ix, .int .i64 0, .int .i64 0, .int .i64 0, .int .u64 0, .string t, .slice none 0 0]
section
variable {W : Base} {w : World} {R : List Thing}
theorem kn_val2 (k : Kn) (a : Option Addr) (c : Nat) : ∃ j a2 n2 c2, k.val (.slice a k.ps.length c) = .agg #[.int .i64 j, .int .i64 k.B, .slice a2 n2 c2] := by
  unfold Kn.B Kn.val
  rcases k.held with _ | ⟨B, ps⟩
  · exact ⟨_, _, _, _, rfl⟩
  · exact ⟨_, _, _, _, rfl⟩
set_option maxHeartbeats 6400000 in
set_option maxRecDepth 100000 in
theorem st_kput_take (H : St W w R) (i : Nat) {K : Nat} {k : Kn} {nn : Nat} (hi : R[i]? = some (KnT K k nn)) (b ix : Nat) (t : ByteArray) (hb1 : 1 ≤ b) (hb2 : b ≤ 1099511627776) (htk : k.takes b ix = true) (ht : t.size ≤ 32) (h0 : ix = 0 → t = ⟨#[]⟩) (hl : k.ps.length ≤ 16) (hix : ix ≤ 16) (hnn : nn ≤ 1073741824) :
    Calls Tryz.prog 17 #[ptr K, .int .i64 1, .int .i64 b, .int .i64 ix, .string t] w fun e w' => e = .returned (.tuple #[.int .i64 ((ix + 1 : Nat) : Int), .bool true, .int .i64 0]) ∧ St W w' (R.set i (KnT K (k.put b ix t) (nn + 1))) := by
  have HC := hid (st_kcount H i hi b hl)
  have hil := hid (lt_of_get hi)
  obtain ⟨m, v, nv, evs, H2⟩ := H.kn i hi
  obtain ⟨va, vc, rfl, hvc1, hvc2⟩ := row_slice (H2.row _ (get_behind _ _ 2))
  obtain ⟨vj, sa, sn, sc, hvv⟩ := kn_val2 k va vc
  have HK := hid (show ∀ wx, Fr [] w wx → wx.cell? ⟨K, 0, none⟩ = some (.map (some m)) ∧ (Instr.lookup 79 (.map (some m)) (.int .i64 1) false).run Tryz.prog wx = .ok (.agg #[.int .i64 vj, .int .i64 k.B, .slice sa sn sc]) wx from fun wx hF => by
    have hlk := kn_look (H2.same hF) false
    rw [if_neg (by decide), hvv] at hlk
    exact ⟨cell_blk (i := 0) ((H2.same hF).blk _ (get_behind _ _ 0)) rfl, hlk⟩)
  simp only [Kn.takes, Bool.and_eq_true, Bool.not_eq_true', decide_eq_true_eq] at htk
  obtain ⟨hlow, hcn⟩ := htk
  have hput : k.put b ix t = k.add b ix t := by unfold Kn.put Kn.takes; rw [hlow, hcn]; simp
  rw [hput]
  have k1 : ¬ (32 : Int) < t.size := by omega
  have k2 : decide ((b : Int) < 1) = false := decide_eq_false (by omega)
  have k3 : decide ((1099511627776 : Int) < b) = false := decide_eq_false (by omega)
  have k4 : decide ((b : Int) < k.B) = false := decide_eq_false (by
    rw [kn_low_B] at hlow
    simp at hlow
    omega)
  have k5 : decide ((ix : Int) < 0) = false := decide_eq_false (by omega)
  have k6 : decide ((16 : Int) < ix) = false := decide_eq_false (by omega)
  rw [← hcn] at HC
  have h0 := hid h0
  have hfa := field_av
  have H2 := hid H2
  have HI := hid (And.intro hcn (And.intro hl (And.intro hix (And.intro hnn hvv))))
  clear H hi hlow hb1 hb2 ht hl hvv hix hcn hput hnn
  obtain ⟨bi, hbi⟩ : ∃ bi : Int, (b : Int) = bi := ⟨_, rfl⟩
  rw [hbi] at HC k2 k3 k4 ⊢
  have HB := hid hbi
  clear hbi
  obtain ⟨Bi, hBi⟩ : ∃ Bi : Int, (k.B : Int) = Bi := ⟨_, rfl⟩
  rw [hBi] at HK k4 HI
  have HBi := hid hBi
  clear hBi
  obtain ⟨xi, hxi⟩ : ∃ xi : Int, (ix : Int) = xi := ⟨_, rfl⟩
  rw [hxi] at HC k5 k6 ⊢
  have k7 : decide (xi < xi) = false := decide_eq_false (by omega)
  have HX := hid hxi
  clear hxi
  by_cases hz : ix = 0
  · have c0 : (xi == 0) = true := by rw [← HX.out, hz]; rfl
    have hT := h0.out hz
    subst hT
    have e9 : (⟨#[]⟩ : ByteArray).toList.isEmpty = true := by simp [ByteArray.toList_eq]
    go_enter Tryz.func17, Tryz.ntmps17
    go_wp2_with fail
    refine HC.out.mono ?_
    rintro e w1 ⟨rfl, hF⟩
    obtain ⟨x0, hlk⟩ := HK.out _ hF
    have H3 := H2.out.same hF
    have H4 := H3.alloc (avO vj Bi (.slice sa sn sc))
    have hbp := H4.blk _ (get_behind _ _ 0)
    have f0 := free_blk (i := 0) hbp
    have f1 := free_blk (i := 1) hbp
    have f2 := free_blk (i := 2) hbp
    have hg := World.block_lt_of_cell? _ _ x0
    go_wp2_with fail
    have H5 := hid (show St W (w1.alloc (avO 1 bi (.slice none 0 0))) (R.set i NilT ++ [BlkT K (knO m nv), MpT Tryz.prog 3 m avE (k.es (.slice va k.ps.length vc)), RowT 9 1 (.slice va k.ps.length vc) k.ps.length (txC k.ps), RowT 98 13 nv nn evs, BlkT w1.heap.size (avO 1 bi (.slice none 0 0)), RowT 9 1 (.slice none 0 0) ([] : List ByteArray).length (txC [])]) from by
      have h := (H3.alloc (avO 1 bi (.slice none 0 0))).nilRow 9 1
      simp only [List.append_assoc] at h
      exact h)
    have hadd := hid (show k.add b ix ⟨#[]⟩ = ⟨some (b, [])⟩ from by unfold Kn.add; rw [if_pos hz])
    generalize w1.alloc (avO 1 bi (.slice none 0 0)) = w6 at H5 ⊢
    generalize w1.heap.size = p1 at H5 ⊢
    clear x0 hlk H3 H4 hbp f0 f1 f2 hg hF
    have b6 := H5.out.blk _ (get_behind _ _ 0)
    have b7 := H5.out.blk _ (get_behind _ _ 4)
    obtain ⟨w7, hmp, H8⟩ := mp_put (H5.out.same ((Fr.refl _ _).drew)) _ (get_behind _ _ 1) 79 41 Tryz.underlying3 Tryz.underlying79 (by unfold Kn.es; split <;> (unfold maxLen; simp)) 1 (lit_wf (by omega)) (b, .slice none 0 0)
    rw [set_bh] at H8
    have hes : mput (k.es (.slice va k.ps.length vc)) 1 (b, .slice none 0 0) = (⟨some (b, [])⟩ : Kn).es (.slice none 0 0) := by
      unfold Kn.es
      rcases k.held with _ | ⟨B, ps⟩ <;> rfl
    rw [hes] at H8
    have hmp2 : (Instr.mapUpdate 79 (.map (some m)) (.int .i64 1) (.agg #[.int .i64 1, .int .i64 bi, .slice none 0 0])).run Tryz.prog w6.drew = .ok () w7 := by
      rw [← HB.out]; exact hmp
    have hmp2 := hid hmp2
    have H8 := hid H8
    have hS0 : w6.drew.cell? ⟨K, 0, none⟩ = some (.map (some m)) ∧ w6.drew.cell? ⟨p1, 0, none⟩ = some (.int .i64 1) ∧ w6.drew.cell? ⟨p1, 1, none⟩ = some (.int .i64 bi) ∧ w6.drew.cell? ⟨p1, 2, none⟩ = some (.slice none 0 0) := ⟨cell_blk (i := 0) b6 rfl, cell_blk (i := 0) b7 rfl, cell_blk (i := 1) b7 rfl, cell_blk (i := 2) b7 rfl⟩
    clear hmp hes b6 b7
    refine wp_region_U (S := fun wx : World => wx.cell? ⟨K, 0, none⟩ = some (.map (some m)) ∧ wx.cell? ⟨p1, 0, none⟩ = some (.int .i64 1) ∧ wx.cell? ⟨p1, 1, none⟩ = some (.int .i64 bi) ∧ wx.cell? ⟨p1, 2, none⟩ = some (.slice none 0 0)) 6 (by kernel_rfl) hS0 (fun hHeld => ?_)
    refine takeU (i := 0) (d := 91) (v := ?_) rfl rfl (by kernel_rfl) (by kernel_rfl) (by kernel_rfl) (by kernel_rfl) (by kernel_rfl) (fun _ _ _ h => h) (Or.inl ⟨by rfl, ?_⟩) hHeld ?_
    rotate_left
    · intro wq hSw; (try dsimp only at hSw); go_simp; all_goals (with_reducible rfl)
    simp only [Act.put, List.setIfInBounds_toArray, List.set_cons_zero, List.set_cons_succ]
    refine takeU (i := 1) (d := 92) (v := ?_) rfl rfl (by kernel_rfl) (by kernel_rfl) (by kernel_rfl) (by kernel_rfl) (by kernel_rfl) (fun _ _ _ h => h) (Or.inl ⟨by rfl, ?_⟩) hHeld ?_
    rotate_left
    · intro wq hSw; (try dsimp only at hSw); go_simp; all_goals (with_reducible rfl)
    simp only [Act.put, List.setIfInBounds_toArray, List.set_cons_zero, List.set_cons_succ]
    refine takeU (i := 2) (d := 93) (v := ?_) rfl rfl (by kernel_rfl) (by kernel_rfl) (by kernel_rfl) (by kernel_rfl) (by kernel_rfl) (fun _ _ _ h => h) (Or.inl ⟨by rfl, ?_⟩) hHeld ?_
    rotate_left
    · intro wq hSw; (try dsimp only at hSw); go_simp; all_goals (with_reducible rfl)
    simp only [Act.put, List.setIfInBounds_toArray, List.set_cons_zero, List.set_cons_succ]
    refine takeU (i := 3) (d := 94) (v := ?_) rfl rfl (by kernel_rfl) (by kernel_rfl) (by kernel_rfl) (by kernel_rfl) (by kernel_rfl) (fun _ _ _ h => h) (Or.inl ⟨by rfl, ?_⟩) hHeld ?_
    rotate_left
    · intro wq hSw; (try dsimp only at hSw); go_simp; all_goals (with_reducible rfl)
    simp only [Act.put, List.setIfInBounds_toArray, List.set_cons_zero, List.set_cons_succ]
    refine takeU (i := 4) (d := 95) (v := ?_) rfl rfl (by kernel_rfl) (by kernel_rfl) (by kernel_rfl) (by kernel_rfl) (by kernel_rfl) (fun _ _ _ h => h) (Or.inl ⟨by rfl, ?_⟩) hHeld ?_
    rotate_left
    · intro wq hSw; (try dsimp only at hSw); go_simp; all_goals (with_reducible rfl)
    simp only [Act.put, List.setIfInBounds_toArray, List.set_cons_zero, List.set_cons_succ]
    refine takeU (i := 5) (d := 96) (v := ?_) rfl rfl (by kernel_rfl) (by kernel_rfl) (by kernel_rfl) (by kernel_rfl) (by kernel_rfl) (fun _ _ _ h => h) (Or.inl ⟨by rfl, ?_⟩) hHeld ?_
    rotate_left
    · intro wq hSw; (try dsimp only at hSw); go_simp; all_goals (with_reducible rfl)
    simp only [Act.put, List.setIfInBounds_toArray, List.set_cons_zero, List.set_cons_succ]
    refine wpAnyU_ready (rs := [6]) (by kernel_rfl) (by simp) ?_
    refine AllReadyU.cons rfl (fun K hK => ?_) AllReadyU.nil
    have hmp3 := hmp2.out
    go_simp
    refine hK.out _ _ (fun h => absurd rfl h) (fun _ => ?_)
    clear hK K hmp3
    refine wpAnyU_done (by kernel_rfl) ?_ _
    clear hHeld hmp2 hS0
    obtain ⟨ea, ec, rfl, _, _⟩ := row_slice (H8.out.row _ (get_behind _ _ 3))
    have b8 := H8.out.blk _ (get_behind _ _ 0)
    have z1 := cell_blk (i := 1) b8 rfl
    have hg8 := lt_of_block b8
    have H9 := hid (H8.out.alloc (evO bi xi ⟨#[]⟩))
    obtain ⟨i0, hi0, hz0, hz1, hz2⟩ := info_parts info_ev
    have HI0 := hid (And.intro hi0 (And.intro hz0 (And.intro hz1 hz2)))
    clear hi0 hz0 hz1 hz2 b8
    go_wp2_with (at_builtin; refine wpAdded H9.out ((R.set i NilT).length + 3) rfl (.tmp 101) (.tmp 107) 80 rfl 98 i0 evZ 13 128 Tryz.underlying80 HI0.out.1 HI0.out.2.1 HI0.out.2.2.1 HI0.out.2.2.2 rfl (by decide) (.slice ea nn ec) nn evs (by rw [List.append_assoc, get_behind]; rfl) rfl (some ⟨w7.heap.size, 0, none⟩) 1 1 (fun q => (evF bi xi ⟨#[]⟩).getD q undef) rfl (H9.out.blkIn ((R.set i NilT).length + 6) 13 1 rfl (by decide) (by rw [List.append_assoc, get_behind]; rfl)) (fun j hj => by (obtain rfl | rfl | rfl | rfl | rfl | rfl | rfl | rfl | rfl | rfl | rfl | rfl | rfl : j = 0 ∨ j = 1 ∨ j = 2 ∨ j = 3 ∨ j = 4 ∨ j = 5 ∨ j = 6 ∨ j = 7 ∨ j = 8 ∨ j = 9 ∨ j = 10 ∨ j = 11 ∨ j = 12 := by omega) <;> rfl) (by have := HI.out; unfold maxLen; omega) (by have := HI.out; omega) ?_)
    intro a5 c5 w5 H10
    generalize (evs ++ _) = evs2 at H10
    have eR2 : RowT 9 1 (.slice none 0 0) 0 (txC []) = RowT 9 1 (.slice none 0 0) ([] : List ByteArray).length (txC []) := by simp
    rw [eR2] at H10
    have b9 := H10.blk _ (get_behind _ _ 0)
    have y1 := cell_blk (i := 1) b9 rfl
    have f1 := free_blk (i := 1) b9
    have H11 := H10.setBlk _ (get_behind _ _ 0) 1 (.slice a5 (nn + 1) c5)
    rw [set_bh] at H11
    have H12 := hid (show St W (w5.setCell ⟨K, 1, none⟩ (.slice a5 (nn + 1) c5)) (R.set i (KnT K (k.add b ix ⟨#[]⟩) (nn + 1))) from by
      rw [hadd.out]
      exact St.knBack (k := ⟨some (b, [])⟩) (m := m) (v := .slice none 0 0) (nv := .slice a5 (nn + 1) c5) (evs := evs2) hil.out (H11.pickEnd [0, 1, 5, 3] (by decide) (by intro q hq; simp at hq ⊢; omega)))
    have hw := hid (show wrap64 (xi + 1) = ((ix + 1 : Nat) : Int) from by
      have := HI.out
      rw [← HX.out, IntWalk.wrap64_in _ (by omega)]; rfl)
    clear b9 z1 hg8 H9 H10 H11
    go_wp2_with fail
    go_ret3
    refine ⟨?_, H12.out⟩
    rw [← hw.out]
    rfl
  · have c0 : (xi == 0) = false := by rw [beq_eq_false_iff_ne, ← HX.out]; omega
    obtain ⟨ps, hk⟩ : ∃ ps, k.held = some (b, ps) := by
      have hc := HI.out.1
      unfold Kn.count at hc
      rcases hk : k.held with _ | ⟨B, ps⟩
      · rw [hk] at hc; exact absurd hc hz
      · rw [hk] at hc
        by_cases e : B = b
        · exact ⟨ps, by rw [e]⟩
        · simp only [if_neg e] at hc; exact absurd hc hz
    have hps : k.ps = ps := by unfold Kn.ps; rw [hk]
    obtain ⟨rfl, rfl, rfl, rfl⟩ : vj = 1 ∧ va = sa ∧ k.ps.length = sn ∧ vc = sc := by
      have h := HI.out.2.2.2.2
      unfold Kn.val at h
      rw [hk] at h
      simp only [avE, Value.agg.injEq] at h
      have h2 := congrArg Array.toList h
      simp at h2
      obtain ⟨e1, e2, e3, e4, e5⟩ := h2
      exact ⟨e1.symm, e3, e4, e5⟩
    have hadd := hid (show k.add b ix t = ⟨some (b, ps ++ [t])⟩ from by unfold Kn.add; rw [if_neg hz, hk])
    have HPS := hid hps
    have hpl := hid (show k.ps.length ≤ 16 from HI.out.2.1)
    have hclip := hid (fun wx => clip_str va k.ps.length vc wx hvc1 hvc2)
    obtain rfl : bi = Bi := by
      rw [← HBi.out, ← HB.out]
      unfold Kn.B
      rw [hk]
    clear hz hk hps hvc1 hvc2
    go_enter Tryz.func17, Tryz.ntmps17
    go_wp2_with fail
    refine HC.out.mono ?_
    rintro e w1 ⟨rfl, hF⟩
    obtain ⟨x0, hlk⟩ := HK.out _ hF
    have H3 := H2.out.same hF
    have H4 := hid (H3.alloc (avO 1 bi (.slice va k.ps.length vc)))
    clear H3
    go_wp2_with fail
    refine (hclip.out _).mono ?_
    rintro e w2 ⟨rfl, rfl⟩
    have H4 := H4.out
    generalize w1.alloc (avO 1 bi (.slice va k.ps.length vc)) = w2 at H4 ⊢
    generalize w1.heap.size = p1 at H4 ⊢
    have H5 := H4.alloc (.cells #[.string t] 9)
    simp only [List.append_assoc, List.cons_append, List.nil_append] at H5
    have H5 := hid H5
    clear x0 hlk H4 hF
    obtain ⟨i1, hi0, hz0, hz1, hz2⟩ := info_parts info_tx
    have HI1 := hid (And.intro hi0 (And.intro hz0 (And.intro hz1 hz2)))
    clear hi0 hz0 hz1 hz2
    go_wp2_with (at_builtin; refine wpClipped H5.out rfl (.tmp 86) (.tmp 88) 32 rfl 9 i1 (.string ByteArray.empty) 1 16 Tryz.underlying32 HI1.out.1 HI1.out.2.1 HI1.out.2.2.1 HI1.out.2.2.2 rfl (by decide) ((R.set i NilT).length + 2) va k.ps.length vc (txC k.ps) (by rw [get_behind]; rfl) rfl ⟨w2.heap.size, 0, none⟩ 1 1 [.string t] rfl (by decide) rfl (news_alloc w2 [.string t] _) (by intro u hu; simp at hu; subst hu; rfl) (by have := hpl.out; unfold maxLen; omega) (by have := hpl.out; omega) ?_)
    intro g cap w5 H6
    have b5 := H6.blk _ (get_behind _ _ 4)
    have y2 := cell_blk (i := 2) b5 rfl
    have f2 := free_blk (i := 2) b5
    have H7 := H6.setBlk _ (get_behind _ _ 4) 2 (.slice (some ⟨g, 0, none⟩) (k.ps.length + 1) cap)
    rw [set_bh] at H7
    have eR : RowT 9 1 (.slice (some ⟨g, 0, none⟩) (k.ps.length + 1) cap) (k.ps.length + 1) (txC k.ps ++ [.string t]) = RowT 9 1 (.slice (some ⟨g, 0, none⟩) (k.ps.length + 1) cap) (ps ++ [t]).length (txC (ps ++ [t])) := by
      rw [txC_snoc, HPS.out]
      simp
    have H5 := hid (show St W (w5.setCell ⟨p1, 2, none⟩ (.slice (some ⟨g, 0, none⟩) (k.ps.length + 1) cap)) (R.set i NilT ++ [BlkT K (knO m nv), MpT Tryz.prog 3 m avE (k.es (.slice va k.ps.length vc)), RowT 9 1 (.slice va k.ps.length vc) k.ps.length (txC k.ps), RowT 98 13 nv nn evs, BlkT p1 (avO 1 bi (.slice (some ⟨g, 0, none⟩) (k.ps.length + 1) cap)), RowT 9 1 (.slice (some ⟨g, 0, none⟩) (k.ps.length + 1) cap) (ps ++ [t]).length (txC (ps ++ [t]))]) from by
      rw [← eR]
      exact H7.pickEnd [0, 1, 2, 3, 4, 6] (by decide) (by intro q hq; simp at hq ⊢; omega))
    clear b5 H6 H7 eR
    go_wp2_with fail
    generalize w5.setCell ⟨p1, 2, none⟩ _ = w6 at H5 ⊢
    clear y2 f2
    have b6 := H5.out.blk _ (get_behind _ _ 0)
    have b7 := H5.out.blk _ (get_behind _ _ 4)
    obtain ⟨w7, hmp, H8⟩ := mp_put (H5.out.same ((Fr.refl _ _).drew)) _ (get_behind _ _ 1) 79 41 Tryz.underlying3 Tryz.underlying79 (by unfold Kn.es; split <;> (unfold maxLen; simp)) 1 (lit_wf (by omega)) (b, .slice (some ⟨g, 0, none⟩) (k.ps.length + 1) cap)
    rw [set_bh] at H8
    have hes : mput (k.es (.slice va k.ps.length vc)) 1 (b, .slice (some ⟨g, 0, none⟩) (k.ps.length + 1) cap) = (⟨some (b, (ps ++ [t]))⟩ : Kn).es (.slice (some ⟨g, 0, none⟩) (k.ps.length + 1) cap) := by
      unfold Kn.es
      rcases k.held with _ | ⟨B, ps⟩ <;> rfl
    rw [hes] at H8
    have hmp2 : (Instr.mapUpdate 79 (.map (some m)) (.int .i64 1) (.agg #[.int .i64 1, .int .i64 bi, .slice (some ⟨g, 0, none⟩) (k.ps.length + 1) cap])).run Tryz.prog w6.drew = .ok () w7 := by
      rw [← HB.out]; exact hmp
    have hmp2 := hid hmp2
    have H8 := hid H8
    have hS0 : w6.drew.cell? ⟨K, 0, none⟩ = some (.map (some m)) ∧ w6.drew.cell? ⟨p1, 0, none⟩ = some (.int .i64 1) ∧ w6.drew.cell? ⟨p1, 1, none⟩ = some (.int .i64 bi) ∧ w6.drew.cell? ⟨p1, 2, none⟩ = some (.slice (some ⟨g, 0, none⟩) (k.ps.length + 1) cap) := ⟨cell_blk (i := 0) b6 rfl, cell_blk (i := 0) b7 rfl, cell_blk (i := 1) b7 rfl, cell_blk (i := 2) b7 rfl⟩
    clear hmp hes b6 b7
    refine wp_region_U (S := fun wx : World => wx.cell? ⟨K, 0, none⟩ = some (.map (some m)) ∧ wx.cell? ⟨p1, 0, none⟩ = some (.int .i64 1) ∧ wx.cell? ⟨p1, 1, none⟩ = some (.int .i64 bi) ∧ wx.cell? ⟨p1, 2, none⟩ = some (.slice (some ⟨g, 0, none⟩) (k.ps.length + 1) cap)) 6 (by kernel_rfl) hS0 (fun hHeld => ?_)
    refine takeU (i := 0) (d := 91) (v := ?_) rfl rfl (by kernel_rfl) (by kernel_rfl) (by kernel_rfl) (by kernel_rfl) (by kernel_rfl) (fun _ _ _ h => h) (Or.inl ⟨by rfl, ?_⟩) hHeld ?_
    rotate_left
    · intro wq hSw; (try dsimp only at hSw); go_simp; all_goals (with_reducible rfl)
    simp only [Act.put, List.setIfInBounds_toArray, List.set_cons_zero, List.set_cons_succ]
    refine takeU (i := 1) (d := 92) (v := ?_) rfl rfl (by kernel_rfl) (by kernel_rfl) (by kernel_rfl) (by kernel_rfl) (by kernel_rfl) (fun _ _ _ h => h) (Or.inl ⟨by rfl, ?_⟩) hHeld ?_
    rotate_left
    · intro wq hSw; (try dsimp only at hSw); go_simp; all_goals (with_reducible rfl)
    simp only [Act.put, List.setIfInBounds_toArray, List.set_cons_zero, List.set_cons_succ]
    refine takeU (i := 2) (d := 93) (v := ?_) rfl rfl (by kernel_rfl) (by kernel_rfl) (by kernel_rfl) (by kernel_rfl) (by kernel_rfl) (fun _ _ _ h => h) (Or.inl ⟨by rfl, ?_⟩) hHeld ?_
    rotate_left
    · intro wq hSw; (try dsimp only at hSw); go_simp; all_goals (with_reducible rfl)
    simp only [Act.put, List.setIfInBounds_toArray, List.set_cons_zero, List.set_cons_succ]
    refine takeU (i := 3) (d := 94) (v := ?_) rfl rfl (by kernel_rfl) (by kernel_rfl) (by kernel_rfl) (by kernel_rfl) (by kernel_rfl) (fun _ _ _ h => h) (Or.inl ⟨by rfl, ?_⟩) hHeld ?_
    rotate_left
    · intro wq hSw; (try dsimp only at hSw); go_simp; all_goals (with_reducible rfl)
    simp only [Act.put, List.setIfInBounds_toArray, List.set_cons_zero, List.set_cons_succ]
    refine takeU (i := 4) (d := 95) (v := ?_) rfl rfl (by kernel_rfl) (by kernel_rfl) (by kernel_rfl) (by kernel_rfl) (by kernel_rfl) (fun _ _ _ h => h) (Or.inl ⟨by rfl, ?_⟩) hHeld ?_
    rotate_left
    · intro wq hSw; (try dsimp only at hSw); go_simp; all_goals (with_reducible rfl)
    simp only [Act.put, List.setIfInBounds_toArray, List.set_cons_zero, List.set_cons_succ]
    refine takeU (i := 5) (d := 96) (v := ?_) rfl rfl (by kernel_rfl) (by kernel_rfl) (by kernel_rfl) (by kernel_rfl) (by kernel_rfl) (fun _ _ _ h => h) (Or.inl ⟨by rfl, ?_⟩) hHeld ?_
    rotate_left
    · intro wq hSw; (try dsimp only at hSw); go_simp; all_goals (with_reducible rfl)
    simp only [Act.put, List.setIfInBounds_toArray, List.set_cons_zero, List.set_cons_succ]
    refine wpAnyU_ready (rs := [6]) (by kernel_rfl) (by simp) ?_
    refine AllReadyU.cons rfl (fun K hK => ?_) AllReadyU.nil
    have hmp3 := hmp2.out
    go_simp
    refine hK.out _ _ (fun h => absurd rfl h) (fun _ => ?_)
    clear hK K hmp3
    refine wpAnyU_done (by kernel_rfl) ?_ _
    clear hHeld hmp2 hS0
    obtain ⟨ea, ec, rfl, _, _⟩ := row_slice (H8.out.row _ (get_behind _ _ 3))
    have b8 := H8.out.blk _ (get_behind _ _ 0)
    have z1 := cell_blk (i := 1) b8 rfl
    have hg8 := lt_of_block b8
    have H9 := hid (H8.out.alloc (evO bi xi t))
    obtain ⟨i0, hi0, hz0, hz1, hz2⟩ := info_parts info_ev
    have HI0 := hid (And.intro hi0 (And.intro hz0 (And.intro hz1 hz2)))
    clear hi0 hz0 hz1 hz2 b8
    go_wp2_with (at_builtin; refine wpAdded H9.out ((R.set i NilT).length + 3) rfl (.tmp 101) (.tmp 107) 80 rfl 98 i0 evZ 13 128 Tryz.underlying80 HI0.out.1 HI0.out.2.1 HI0.out.2.2.1 HI0.out.2.2.2 rfl (by decide) (.slice ea nn ec) nn evs (by rw [List.append_assoc, get_behind]; rfl) rfl (some ⟨w7.heap.size, 0, none⟩) 1 1 (fun q => (evF bi xi t).getD q undef) rfl (H9.out.blkIn ((R.set i NilT).length + 6) 13 1 rfl (by decide) (by rw [List.append_assoc, get_behind]; rfl)) (fun j hj => by (obtain rfl | rfl | rfl | rfl | rfl | rfl | rfl | rfl | rfl | rfl | rfl | rfl | rfl : j = 0 ∨ j = 1 ∨ j = 2 ∨ j = 3 ∨ j = 4 ∨ j = 5 ∨ j = 6 ∨ j = 7 ∨ j = 8 ∨ j = 9 ∨ j = 10 ∨ j = 11 ∨ j = 12 := by omega) <;> rfl) (by have := HI.out; unfold maxLen; omega) (by have := HI.out; omega) ?_)
    intro a5 c5 w5 H10
    generalize (evs ++ _) = evs2 at H10
    have eR2 : RowT 9 1 (.slice (some ⟨g, 0, none⟩) (k.ps.length + 1) cap) (ps.length + 1) (txC (ps ++ [t])) = RowT 9 1 (.slice (some ⟨g, 0, none⟩) (k.ps.length + 1) cap) ((ps ++ [t]) : List ByteArray).length (txC (ps ++ [t])) := by simp
    rw [eR2] at H10
    have b9 := H10.blk _ (get_behind _ _ 0)
    have y1 := cell_blk (i := 1) b9 rfl
    have f1 := free_blk (i := 1) b9
    have H11 := H10.setBlk _ (get_behind _ _ 0) 1 (.slice a5 (nn + 1) c5)
    rw [set_bh] at H11
    have H12 := hid (show St W (w5.setCell ⟨K, 1, none⟩ (.slice a5 (nn + 1) c5)) (R.set i (KnT K (k.add b ix t) (nn + 1))) from by
      rw [hadd.out]
      exact St.knBack (k := ⟨some (b, (ps ++ [t]))⟩) (m := m) (v := .slice (some ⟨g, 0, none⟩) (k.ps.length + 1) cap) (nv := .slice a5 (nn + 1) c5) (evs := evs2) hil.out (H11.pickEnd [0, 1, 5, 3] (by decide) (by intro q hq; simp at hq ⊢; omega)))
    have hw := hid (show wrap64 (xi + 1) = ((ix + 1 : Nat) : Int) from by
      have := HI.out
      rw [← HX.out, IntWalk.wrap64_in _ (by omega)]; rfl)
    clear b9 z1 hg8 H9 H10 H11
    go_wp2_with fail
    go_ret3
    refine ⟨?_, H12.out⟩
    rw [← hw.out]
    rfl
end

end Go.Proofs.YtkiccbjngokpjaaGreat
