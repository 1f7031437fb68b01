/-
  'answers' of layer 4, walked: it is true, and the two disks go on alike.
-/
import Derived.Test.YtkkahkgjedgjnaaAnswers
namespace Go.Proofs.Ytkkahkgjedgjnaa
open Go.RowKit
set_option linter.unusedVariables false
set_option linter.unusedSimpArgs false

/-- What a call leaves: a disk, and the document's, alike. -/
def Alike (V : Base) (w' : World) (D X : Nat) (n : Nat) : Prop := ∃ d', St V w' [DkT D d', XkT X d'] ∧ d'.wf ∧ d'.raw.length ≤ n

theorem same_self (w : World) (a b : Option Addr) (ca cb : Nat) (ss : List ByteArray) (ha : In w 1 a ss.length ca (strV ss)) (hb : In w 1 b ss.length cb (strV ss)) :
    Calls Try.prog 37 #[.slice a ss.length ca, .slice b ss.length cb] w fun e w' => e = .returned (.bool true) ∧ Fr [] w w' :=
  (same_any w a b ca cb ss ss ha hb).mono fun e w' ⟨h, k⟩ => ⟨h.trans (by simp), k⟩
theorem sameRaw_self (w : World) (a b : Option Addr) (ca cb : Nat) (ss : List (Int × ByteArray)) (ha : In w 2 a ss.length ca (wrV ss)) (hb : In w 2 b ss.length cb (wrV ss)) :
    Calls Try.prog 38 #[.slice a ss.length ca, .slice b ss.length cb] w fun e w' => e = .returned (.bool true) ∧ Fr [] w w' :=
  (sameRaw_any w a b ca cb ss ss ha hb).mono fun e w' ⟨h, k⟩ => ⟨h.trans (by simp), k⟩

theorem arm_wf' {d : DS} (hw : d.wf) (n b : Int) (h2 : n ≤ 9223372036854775807) : (d.arm n b).2.wf := arm_wf hw n b h2
theorem arm_raw (d : DS) (n b : Int) : (d.arm n b).2.raw = d.raw := by
  unfold DS.arm; split
  · rfl
  · split <;> rfl

set_option maxHeartbeats 3200000 in
set_option maxRecDepth 100000 in
theorem answers_any {V : Base} {w : World} {D X : Nat} {d : DS} (H : St V w [DkT D d, XkT X d]) (hw : d.wf) (hn : (d.raw.length + 1) * 24 ≤ 140737488355328) (on kind a b : Int) (s : ByteArray) (ha : a ≤ 9223372036854775807) :
    Calls Try.prog 54 #[.agg #[.pointer (some ⟨D, 0, none⟩), .pointer (some ⟨X, 0, none⟩)], .agg #[.int .i64 on, .int .i64 kind, .int .i64 a, .int .i64 b, .string s]] w
      fun e w' => e = .returned (.bool true) ∧ Alike V w' D X (d.raw.length + 1) := by
  have H0 : St V ((w.alloc (.cells #[.pointer (some ⟨D, 0, none⟩), .pointer (some ⟨X, 0, none⟩)] 74)).alloc (.cells #[.int .i64 on, .int .i64 kind, .int .i64 a, .int .i64 b, .string s] 65)) [DkT D d, XkT X d, BlkT w.heap.size (.cells #[.pointer (some ⟨D, 0, none⟩), .pointer (some ⟨X, 0, none⟩)] 74), BlkT (w.heap.size + 1) (.cells #[.int .i64 on, .int .i64 kind, .int .i64 a, .int .i64 b, .string s] 65)] := (H.allocAt _ w.heap.size rfl).allocAt _ (w.heap.size + 1) (by simp)
  clear H
  obtain ⟨sv, rv, hXX⟩ : ∃ sv rv : Value, ((w.alloc (.cells #[.pointer (some ⟨D, 0, none⟩), .pointer (some ⟨X, 0, none⟩)] 74)).alloc (.cells #[.int .i64 on, .int .i64 kind, .int .i64 a, .int .i64 b, .string s] 65)).heap[X]? = some (.cells #[sv, rv, .int .i64 d.armed, .int .i64 d.bytes, .bool d.dead] 88 (0, 0)) ∧
      ((w.alloc (.cells #[.pointer (some ⟨D, 0, none⟩), .pointer (some ⟨X, 0, none⟩)] 74)).alloc (.cells #[.int .i64 on, .int .i64 kind, .int .i64 a, .int .i64 b, .string s] 65)).ownsRow 0 9 1 sv d.sec.length (strs d.sec d.sec.length) ∧ ((w.alloc (.cells #[.pointer (some ⟨D, 0, none⟩), .pointer (some ⟨X, 0, none⟩)] 74)).alloc (.cells #[.int .i64 on, .int .i64 kind, .int .i64 a, .int .i64 b, .string s] 65)).ownsRow 0 56 2 rv d.raw.length (rawCells d.raw) := by
    obtain ⟨F, G, sv, rv, _, _, h1, h2, h3⟩ := H0.getG 1 rfl
    exact ⟨sv, rv, h1, h2, h3⟩
  have hk : ∀ (wx : World) (A B : Thing), St V wx [A, B, BlkT w.heap.size (.cells #[.pointer (some ⟨D, 0, none⟩), .pointer (some ⟨X, 0, none⟩)] 74), BlkT (w.heap.size + 1) (.cells #[.int .i64 on, .int .i64 kind, .int .i64 a, .int .i64 b, .string s] 65)] → wx.cell? ⟨w.heap.size, 0, none⟩ = some (.pointer (some ⟨D, 0, none⟩)) ∧ wx.cell? ⟨w.heap.size, 1, none⟩ = some (.pointer (some ⟨X, 0, none⟩)) ∧ wx.cell? ⟨w.heap.size + 1, 2, none⟩ = some (.int .i64 a) ∧ wx.cell? ⟨w.heap.size + 1, 3, none⟩ = some (.int .i64 b) ∧ wx.cell? ⟨w.heap.size + 1, 4, none⟩ = some (.string s) := fun wx A B h =>
    ⟨cell_blk (h.blk 2 rfl) rfl, cell_blk (h.blk 2 rfl) rfl, cell_blk (h.blk 3 rfl) rfl, cell_blk (h.blk 3 rfl) rfl, cell_blk (h.blk 3 rfl) rfl⟩
  have HK := hid hk
  obtain ⟨k0, k1, k2, k3, k4⟩ := hk _ _ _ H0
  have kk := cell_blk (i := 1) (H0.blk 3 rfl) rfl
  have HX := hid hXX
  have HE := hid (fun (wx : World) (d' : DS) (h : St V wx [DkT D d', XkT X d', BlkT w.heap.size (.cells #[.pointer (some ⟨D, 0, none⟩), .pointer (some ⟨X, 0, none⟩)] 74), BlkT (w.heap.size + 1) (.cells #[.int .i64 on, .int .i64 kind, .int .i64 a, .int .i64 b, .string s] 65)]) (h1 : d'.wf) (h2 : d'.raw.length ≤ d.raw.length + 1) => (⟨d', h.take 2, h1, h2⟩ : Alike V wx D X (d.raw.length + 1)))
  clear hXX hk
  by_cases h0 : kind = 0
  · subst h0
    go_enter Try.func54, Try.ntmps54
    go_wp2_with fail
    refine (st_read H0 0 rfl a hw).mono ?_
    rintro e w101 ⟨rfl, rfl⟩
    go_wp2_with fail
    refine (st_ref_read H0 1 rfl a hw).mono ?_
    rintro e w102 ⟨rfl, rfl⟩
    go_wp2_with fail
    go_ret
    exact ⟨rfl, HE.out _ d H0 hw (by omega)⟩
  have q0 : (kind == 0) = false := by rw [beq_eq_false_iff_ne]; exact h0
  clear h0
  by_cases h1 : kind = 1
  · subst h1
    obtain ⟨z, d', hz⟩ : ∃ z d', d.write a s = (z, d') := ⟨_, _, rfl⟩
    have hwf := write_wf hw a s
    have hlen := (write_len d a s).2
    rw [hz] at hwf hlen
    have HZ := hid hz
    have HW := hid (And.intro hwf hlen)
    clear hz hwf hlen q0
    go_enter Try.func54, Try.ntmps54
    go_wp2_with fail
    go_region_held3 (fun wx => wx.cell? ⟨w.heap.size, 0, none⟩ = some (.pointer (some ⟨D, 0, none⟩)) ∧ wx.cell? ⟨w.heap.size, 1, none⟩ = some (.pointer (some ⟨X, 0, none⟩)) ∧ wx.cell? ⟨w.heap.size + 1, 2, none⟩ = some (.int .i64 a) ∧ wx.cell? ⟨w.heap.size + 1, 3, none⟩ = some (.int .i64 b) ∧ wx.cell? ⟨w.heap.size + 1, 4, none⟩ = some (.string s)) ((first | exact hNow | exact HK.out _ _ _ H0.drew))
      (first
        | (go_at_call 34; refine (st_write_eq H0.drew 0 rfl a s hw hn HZ.out).mono ?_; rintro e w2 ⟨rfl, HD⟩; have hNow := HK.out _ _ _ HD)
        | (go_at_call 66; refine (st_ref_write_eq HD 1 rfl a s hw hn HZ.out).mono ?_; rintro e w3 ⟨rfl, HD⟩; have hNow := HK.out _ _ _ HD))
    go_wp2_with fail
    go_ret
    exact ⟨rfl, HE.out _ d' HD HW.out.1 HW.out.2⟩
  have q1 : (kind == 1) = false := by rw [beq_eq_false_iff_ne]; exact h1
  clear h1
  by_cases h2 : kind = 2
  · subst h2
    obtain ⟨z, d', hz⟩ : ∃ z d', d.arm a b = (z, d') := ⟨_, _, rfl⟩
    have hwf := arm_wf hw a b ha
    have hlen := arm_raw d a b
    rw [hz] at hwf hlen
    have HZ := hid hz
    have HW := hid (And.intro hwf hlen)
    clear hz hwf hlen q0 q1
    go_enter Try.func54, Try.ntmps54
    go_wp2_with fail
    go_region_held3 (fun wx => wx.cell? ⟨w.heap.size, 0, none⟩ = some (.pointer (some ⟨D, 0, none⟩)) ∧ wx.cell? ⟨w.heap.size, 1, none⟩ = some (.pointer (some ⟨X, 0, none⟩)) ∧ wx.cell? ⟨w.heap.size + 1, 2, none⟩ = some (.int .i64 a) ∧ wx.cell? ⟨w.heap.size + 1, 3, none⟩ = some (.int .i64 b) ∧ wx.cell? ⟨w.heap.size + 1, 4, none⟩ = some (.string s)) ((first | exact hNow | exact HK.out _ _ _ H0.drew))
      (first
        | (go_at_call 46; refine (st_arm_eq H0.drew 0 rfl a b HZ.out).mono ?_; rintro e w2 ⟨rfl, HD⟩; have hNow := HK.out _ _ _ HD)
        | (go_at_call 67; refine (st_ref_arm_eq HD 1 rfl a b HZ.out).mono ?_; rintro e w3 ⟨rfl, HD⟩; have hNow := HK.out _ _ _ HD))
    go_wp2_with fail
    go_ret
    exact ⟨rfl, HE.out _ d' HD HW.out.1 (by have := HW.out.2; rw [this]; omega)⟩
  have q2 : (kind == 2) = false := by rw [beq_eq_false_iff_ne]; exact h2
  clear h2
  by_cases h3 : kind = 3
  · subst h3
    have hwf' := revive_wf hw
    have HWf := hid hwf'
    clear hwf' q0 q1 q2
    go_enter Try.func54, Try.ntmps54
    go_wp2_with fail
    refine (st_revive H0 0 rfl).mono ?_
    rintro e w2 ⟨rfl, HD⟩
    obtain ⟨k0, k1, k2, k3, k4⟩ := HK.out _ _ _ HD
    go_wp2_with fail
    refine (st_ref_revive HD 1 rfl).mono ?_
    clear HD
    rintro e w3 ⟨rfl, HD⟩
    go_wp2_with fail
    have hwf5 : (d.revive).wf := HWf.out
    obtain ⟨F5, hD5⟩ := HD.dk 0 rfl
    obtain ⟨_, _, sv5, rv5, _, _, x5, o5, _⟩ := HD.getG 1 rfl
    obtain ⟨g5, c5, rfl⟩ := owns_shape o5 (by have := hwf5.n1; omega)
    have hS5 : (fun wx : World => wx.cell? ⟨w.heap.size, 0, none⟩ = some (.pointer (some ⟨D, 0, none⟩)) ∧ wx.cell? ⟨w.heap.size, 1, none⟩ = some (.pointer (some ⟨X, 0, none⟩)) ∧ wx.cell? ⟨X, 4, none⟩ = some (.bool (d.revive).dead) ∧ wx.cell? ⟨X, 0, none⟩ = some (.slice (some ⟨g5, 0, none⟩) (d.revive).sec.length c5)) w3 :=
      ⟨cell_blk (HD.blk 2 rfl) rfl, cell_blk (HD.blk 2 rfl) rfl, cell_blk x5 rfl, cell_blk x5 rfl⟩
    have hsl : (((d.revive).sec.length : Nat) : Int) ≤ 9223372036854775807 := by have := hwf5.n2; omega
    have HD5 := hid (And.intro hD5 HD)
    clear x5 o5 hD5
    go_region_held3 (fun wx : World => wx.cell? ⟨w.heap.size, 0, none⟩ = some (.pointer (some ⟨D, 0, none⟩)) ∧ wx.cell? ⟨w.heap.size, 1, none⟩ = some (.pointer (some ⟨X, 0, none⟩)) ∧ wx.cell? ⟨X, 4, none⟩ = some (.bool (d.revive).dead) ∧ wx.cell? ⟨X, 0, none⟩ = some (.slice (some ⟨g5, 0, none⟩) (d.revive).sec.length c5)) ((first | exact hS5 | assumption))
      (first
        | (go_at_call 31; refine (disk_dead (w3).drew F5 D (d.revive) HD5.out.1).mono ?_; rintro e w6 ⟨rfl, rfl⟩)
        | (go_at_call 30; refine (disk_size (w3).drew F5 D (d.revive) HD5.out.1).mono ?_; rintro e w6 ⟨rfl, rfl⟩))
    go_wp2_with fail
    go_ret
    exact ⟨rfl, HE.out _ _ HD5.out.2.drew hwf5 (by show d.raw.length ≤ _; omega)⟩
  have q3 : (kind == 3) = false := by rw [beq_eq_false_iff_ne]; exact h3
  clear h3
  by_cases h5 : kind = 5
  · subst h5
    have hwf' := forget_wf hw
    have HWf := hid hwf'
    clear hwf' q0 q1 q2 q3
    go_enter Try.func54, Try.ntmps54
    go_wp2_with fail
    refine (st_forget H0 0 rfl).mono ?_
    rintro e w2 ⟨rfl, HD⟩
    obtain ⟨k0, k1, k2, k3, k4⟩ := HK.out _ _ _ HD
    obtain ⟨_, _, sv2, rv2, _, _, x2, _, _⟩ := HD.getG 1 rfl
    have e1 := cell_blk (i := 1) x2 rfl
    have j1 := free_blk (i := 1) x2
    replace HD := st_ref_forget HD 1 rfl
    clear x2
    go_wp2_with fail
    generalize w2.setCell ⟨X, 1, none⟩ (.slice none 0 0) = w3 at HD ⊢
    have hwf5 : (d.forget).wf := HWf.out
    obtain ⟨F5, hD5⟩ := HD.dk 0 rfl
    obtain ⟨_, _, sv5, rv5, _, _, x5, o5, _⟩ := HD.getG 1 rfl
    obtain ⟨g5, c5, rfl⟩ := owns_shape o5 (by have := hwf5.n1; omega)
    have hS5 : (fun wx : World => wx.cell? ⟨w.heap.size, 0, none⟩ = some (.pointer (some ⟨D, 0, none⟩)) ∧ wx.cell? ⟨w.heap.size, 1, none⟩ = some (.pointer (some ⟨X, 0, none⟩)) ∧ wx.cell? ⟨X, 4, none⟩ = some (.bool (d.forget).dead) ∧ wx.cell? ⟨X, 0, none⟩ = some (.slice (some ⟨g5, 0, none⟩) (d.forget).sec.length c5)) w3 :=
      ⟨cell_blk (HD.blk 2 rfl) rfl, cell_blk (HD.blk 2 rfl) rfl, cell_blk x5 rfl, cell_blk x5 rfl⟩
    have hsl : (((d.forget).sec.length : Nat) : Int) ≤ 9223372036854775807 := by have := hwf5.n2; omega
    have HD5 := hid (And.intro hD5 HD)
    clear x5 o5 hD5
    go_region_held3 (fun wx : World => wx.cell? ⟨w.heap.size, 0, none⟩ = some (.pointer (some ⟨D, 0, none⟩)) ∧ wx.cell? ⟨w.heap.size, 1, none⟩ = some (.pointer (some ⟨X, 0, none⟩)) ∧ wx.cell? ⟨X, 4, none⟩ = some (.bool (d.forget).dead) ∧ wx.cell? ⟨X, 0, none⟩ = some (.slice (some ⟨g5, 0, none⟩) (d.forget).sec.length c5)) ((first | exact hS5 | assumption))
      (first
        | (go_at_call 31; refine (disk_dead (w3).drew F5 D (d.forget) HD5.out.1).mono ?_; rintro e w6 ⟨rfl, rfl⟩)
        | (go_at_call 30; refine (disk_size (w3).drew F5 D (d.forget) HD5.out.1).mono ?_; rintro e w6 ⟨rfl, rfl⟩))
    go_wp2_with fail
    go_ret
    exact ⟨rfl, HE.out _ _ HD5.out.2.drew hwf5 (by show 0 ≤ _; omega)⟩
  have q5 : (kind == 5) = false := by rw [beq_eq_false_iff_ne]; exact h5
  clear h5
  by_cases h4 : kind = 4
  · subst h4
    clear q0 q1 q2 q3 q5
    go_enter Try.func54, Try.ntmps54
    go_wp2_with fail
    generalize hw0 : (w.alloc (.cells #[.pointer (some ⟨D, 0, none⟩), .pointer (some ⟨X, 0, none⟩)] 74)).alloc (.cells #[.int .i64 on, .int .i64 4, .int .i64 a, .int .i64 b, .string s] 65) = w0 at H0 HX k0 k1 k2 k3 k4 kk ⊢
    clear hw0
    obtain ⟨F0, hD0⟩ := H0.dk 0 rfl
    obtain ⟨x0, o1, o2⟩ := HX.out
    obtain ⟨ra, rc, rfl, hIr, _⟩ := owns_In o2 (wrV d.raw) (fun j hj => rawCells_get _ j hj)
    have hS0 : (fun wx : World => Fr [] w0.drew wx ∧ wx.cell? ⟨w.heap.size, 0, none⟩ = some (.pointer (some ⟨D, 0, none⟩)) ∧ wx.cell? ⟨w.heap.size, 1, none⟩ = some (.pointer (some ⟨X, 0, none⟩)) ∧ wx.cell? ⟨X, 1, none⟩ = some (.slice ra d.raw.length rc)) w0.drew := ⟨Fr.refl _ _, k0, k1, cell_blk x0 rfl⟩
    have hst : ∀ wx wy, (fun wx : World => Fr [] w0.drew wx ∧ wx.cell? ⟨w.heap.size, 0, none⟩ = some (.pointer (some ⟨D, 0, none⟩)) ∧ wx.cell? ⟨w.heap.size, 1, none⟩ = some (.pointer (some ⟨X, 0, none⟩)) ∧ wx.cell? ⟨X, 1, none⟩ = some (.slice ra d.raw.length rc)) wx → Fr [] wx wy → (fun wx : World => Fr [] w0.drew wx ∧ wx.cell? ⟨w.heap.size, 0, none⟩ = some (.pointer (some ⟨D, 0, none⟩)) ∧ wx.cell? ⟨w.heap.size, 1, none⟩ = some (.pointer (some ⟨X, 0, none⟩)) ∧ wx.cell? ⟨X, 1, none⟩ = some (.slice ra d.raw.length rc)) wy := fun wx wy h hF => ⟨h.1.trans hF, hF.cell0 h.2.1, hF.cell0 h.2.2.1, hF.cell0 h.2.2.2⟩
    have hDk : ∀ wx, (fun wx : World => Fr [] w0.drew wx ∧ wx.cell? ⟨w.heap.size, 0, none⟩ = some (.pointer (some ⟨D, 0, none⟩)) ∧ wx.cell? ⟨w.heap.size, 1, none⟩ = some (.pointer (some ⟨X, 0, none⟩)) ∧ wx.cell? ⟨X, 1, none⟩ = some (.slice ra d.raw.length rc)) wx → Dk wx F0 D d := fun wx h => hD0.keep ((Fr.refl [] w0).drew.trans h.1) (by simp)
    have hIk : ∀ wx, (fun wx : World => Fr [] w0.drew wx ∧ wx.cell? ⟨w.heap.size, 0, none⟩ = some (.pointer (some ⟨D, 0, none⟩)) ∧ wx.cell? ⟨w.heap.size, 1, none⟩ = some (.pointer (some ⟨X, 0, none⟩)) ∧ wx.cell? ⟨X, 1, none⟩ = some (.slice ra d.raw.length rc)) wx → In wx 2 ra d.raw.length rc (wrV d.raw) := fun wx h => hIr.fr0 ((Fr.refl [] w0).drew.trans h.1)
    have HST := hid hst
    have HDK := hid hDk
    have HIK := hid hIk
    have HS0 := hid hS0
    have hn' : d.raw.length * 24 ≤ 140737488355328 := by omega
    clear hst hDk hIk hS0 x0 o1 o2 hIr hD0
    go_region_held3 (fun wx : World => Fr [] w0.drew wx ∧ wx.cell? ⟨w.heap.size, 0, none⟩ = some (.pointer (some ⟨D, 0, none⟩)) ∧ wx.cell? ⟨w.heap.size, 1, none⟩ = some (.pointer (some ⟨X, 0, none⟩)) ∧ wx.cell? ⟨X, 1, none⟩ = some (.slice ra d.raw.length rc)) ((first | exact HNow.out | exact HS0.out))
      (first
        | (go_at_call 36; refine (disk_raw _ F0 D d (HDK.out _ (by assumption)) hn').mono ?_; rintro e w4 ⟨a4, rfl, hF4, hI4, _⟩; have HNow := hid (HST.out _ _ (by assumption) hF4); have HI4 := hid hI4; have HF4 := hid hF4; clear hF4 hI4)
        | (go_at_call 38; refine (sameRaw_self _ a4 ra d.raw.length rc d.raw HI4.out (HIK.out _ (by assumption))).mono ?_; rintro e w5 ⟨rfl, hF5⟩; have HNow := hid (HST.out _ _ (by assumption) hF5); have HF5 := hid hF5; clear hF5))
    go_wp2_with fail
    go_ret
    exact ⟨rfl, HE.out _ _ ((H0.drew.same HF4.out).same HF5.out) hw (by omega)⟩
  have q4 : (kind == 4) = false := by rw [beq_eq_false_iff_ne]; exact h4
  clear h4
  by_cases h6 : kind = 6
  · subst h6
    clear q0 q1 q2 q3 q4 q5
    go_enter Try.func54, Try.ntmps54
    go_wp2_with fail
    generalize hw0 : (w.alloc (.cells #[.pointer (some ⟨D, 0, none⟩), .pointer (some ⟨X, 0, none⟩)] 74)).alloc (.cells #[.int .i64 on, .int .i64 6, .int .i64 a, .int .i64 b, .string s] 65) = w0 at H0 HX k0 k1 k2 k3 k4 kk ⊢
    clear hw0
    obtain ⟨F0, hD0⟩ := H0.dk 0 rfl
    obtain ⟨x0, o1, o2⟩ := HX.out
    obtain ⟨ra, rc, rfl, hIr, _⟩ := owns_In o1 (strV d.sec) (fun j hj => strs_get _ _ j (by omega))
    have hS0 : (fun wx : World => Fr [] w0.drew wx ∧ wx.cell? ⟨w.heap.size, 0, none⟩ = some (.pointer (some ⟨D, 0, none⟩)) ∧ wx.cell? ⟨w.heap.size, 1, none⟩ = some (.pointer (some ⟨X, 0, none⟩)) ∧ wx.cell? ⟨X, 0, none⟩ = some (.slice ra d.sec.length rc)) w0.drew := ⟨Fr.refl _ _, k0, k1, cell_blk x0 rfl⟩
    have hst : ∀ wx wy, (fun wx : World => Fr [] w0.drew wx ∧ wx.cell? ⟨w.heap.size, 0, none⟩ = some (.pointer (some ⟨D, 0, none⟩)) ∧ wx.cell? ⟨w.heap.size, 1, none⟩ = some (.pointer (some ⟨X, 0, none⟩)) ∧ wx.cell? ⟨X, 0, none⟩ = some (.slice ra d.sec.length rc)) wx → Fr [] wx wy → (fun wx : World => Fr [] w0.drew wx ∧ wx.cell? ⟨w.heap.size, 0, none⟩ = some (.pointer (some ⟨D, 0, none⟩)) ∧ wx.cell? ⟨w.heap.size, 1, none⟩ = some (.pointer (some ⟨X, 0, none⟩)) ∧ wx.cell? ⟨X, 0, none⟩ = some (.slice ra d.sec.length rc)) wy := fun wx wy h hF => ⟨h.1.trans hF, hF.cell0 h.2.1, hF.cell0 h.2.2.1, hF.cell0 h.2.2.2⟩
    have hDk : ∀ wx, (fun wx : World => Fr [] w0.drew wx ∧ wx.cell? ⟨w.heap.size, 0, none⟩ = some (.pointer (some ⟨D, 0, none⟩)) ∧ wx.cell? ⟨w.heap.size, 1, none⟩ = some (.pointer (some ⟨X, 0, none⟩)) ∧ wx.cell? ⟨X, 0, none⟩ = some (.slice ra d.sec.length rc)) wx → Dk wx F0 D d := fun wx h => hD0.keep ((Fr.refl [] w0).drew.trans h.1) (by simp)
    have hIk : ∀ wx, (fun wx : World => Fr [] w0.drew wx ∧ wx.cell? ⟨w.heap.size, 0, none⟩ = some (.pointer (some ⟨D, 0, none⟩)) ∧ wx.cell? ⟨w.heap.size, 1, none⟩ = some (.pointer (some ⟨X, 0, none⟩)) ∧ wx.cell? ⟨X, 0, none⟩ = some (.slice ra d.sec.length rc)) wx → In wx 1 ra d.sec.length rc (strV d.sec) := fun wx h => hIr.fr0 ((Fr.refl [] w0).drew.trans h.1)
    have HST := hid hst
    have HDK := hid hDk
    have HIK := hid hIk
    have HS0 := hid hS0
    have hn' : d.raw.length * 24 ≤ 140737488355328 := by omega
    clear hst hDk hIk hS0 x0 o1 o2 hIr hD0
    go_region_held3 (fun wx : World => Fr [] w0.drew wx ∧ wx.cell? ⟨w.heap.size, 0, none⟩ = some (.pointer (some ⟨D, 0, none⟩)) ∧ wx.cell? ⟨w.heap.size, 1, none⟩ = some (.pointer (some ⟨X, 0, none⟩)) ∧ wx.cell? ⟨X, 0, none⟩ = some (.slice ra d.sec.length rc)) ((first | exact HNow.out | exact HS0.out))
      (first
        | (go_at_call 35; refine (disk_sectors _ F0 D d (HDK.out _ (by assumption)) hw).mono ?_; rintro e w4 ⟨v4, rfl, hF4, hv⟩; obtain ⟨g4, c4, rfl, _, hI4⟩ := newStrs_in hv; have HNow := hid (HST.out _ _ (by assumption) hF4); have HI4 := hid hI4; have HF4 := hid hF4; clear hF4 hI4 hv)
        | (go_at_call 37; refine (same_self _ (some ⟨g4, 0, none⟩) ra c4 rc d.sec HI4.out (HIK.out _ (by assumption))).mono ?_; rintro e w5 ⟨rfl, hF5⟩; have HNow := hid (HST.out _ _ (by assumption) hF5); have HF5 := hid hF5; clear hF5))
    go_wp2_with fail
    go_ret
    exact ⟨rfl, HE.out _ _ ((H0.drew.same HF4.out).same HF5.out) hw (by omega)⟩
  have q6 : (kind == 6) = false := by rw [beq_eq_false_iff_ne]; exact h6
  clear h6
  go_enter Try.func54, Try.ntmps54
  go_wp2_with fail
  generalize hw0 : (w.alloc (.cells #[.pointer (some ⟨D, 0, none⟩), .pointer (some ⟨X, 0, none⟩)] 74)).alloc (.cells #[.int .i64 on, .int .i64 kind, .int .i64 a, .int .i64 b, .string s] 65) = w0 at H0 ⊢
  have HD := H0
  clear H0 hw0 k0 k1 k2 k3 k4
  have hwf5 : (d).wf := hw
  obtain ⟨F5, hD5⟩ := HD.dk 0 rfl
  obtain ⟨_, _, sv5, rv5, _, _, x5, o5, _⟩ := HD.getG 1 rfl
  obtain ⟨g5, c5, rfl⟩ := owns_shape o5 (by have := hwf5.n1; omega)
  have hS5 : (fun wx : World => wx.cell? ⟨w.heap.size, 0, none⟩ = some (.pointer (some ⟨D, 0, none⟩)) ∧ wx.cell? ⟨w.heap.size, 1, none⟩ = some (.pointer (some ⟨X, 0, none⟩)) ∧ wx.cell? ⟨X, 4, none⟩ = some (.bool (d).dead) ∧ wx.cell? ⟨X, 0, none⟩ = some (.slice (some ⟨g5, 0, none⟩) (d).sec.length c5)) w0 :=
    ⟨cell_blk (HD.blk 2 rfl) rfl, cell_blk (HD.blk 2 rfl) rfl, cell_blk x5 rfl, cell_blk x5 rfl⟩
  have hsl : (((d).sec.length : Nat) : Int) ≤ 9223372036854775807 := by have := hwf5.n2; omega
  have HD5 := hid (And.intro hD5 HD)
  clear x5 o5 hD5
  go_region_held3 (fun wx : World => wx.cell? ⟨w.heap.size, 0, none⟩ = some (.pointer (some ⟨D, 0, none⟩)) ∧ wx.cell? ⟨w.heap.size, 1, none⟩ = some (.pointer (some ⟨X, 0, none⟩)) ∧ wx.cell? ⟨X, 4, none⟩ = some (.bool (d).dead) ∧ wx.cell? ⟨X, 0, none⟩ = some (.slice (some ⟨g5, 0, none⟩) (d).sec.length c5)) ((first | exact hS5 | assumption))
    (first
      | (go_at_call 31; refine (disk_dead (w0).drew F5 D (d) HD5.out.1).mono ?_; rintro e w6 ⟨rfl, rfl⟩)
      | (go_at_call 30; refine (disk_size (w0).drew F5 D (d) HD5.out.1).mono ?_; rintro e w6 ⟨rfl, rfl⟩))
  go_wp2_with fail
  go_ret
  exact ⟨rfl, HE.out _ _ HD5.out.2.drew hwf5 (by omega)⟩

end Go.Proofs.Ytkkahkgjedgjnaa
