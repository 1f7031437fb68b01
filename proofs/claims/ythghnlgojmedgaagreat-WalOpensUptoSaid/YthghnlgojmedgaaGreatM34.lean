/-
  Merged, in build order: V3 VN V4 V5 V6 V7.
-/
import Derived.Test.YthghnlgojmedgaaGreatM33
import Derived.Test.YthghnlgojmedgaaGreatM28
import Derived.Deep.CutRange
import Derived.Test.YthghnlgojmedgaaGreatM27
import Derived.BigQuiet
/-
  The document's log: Counts.
-/
namespace Go.Proofs.YthghnlgojmedgaaGreat
open Go.RowKit
set_option linter.unusedVariables false
set_option linter.unusedSimpArgs false

abbrev hdO (h : WH) : Obj := .cells #[.int .i64 (h.number : Nat), .int .i64 (h.half : Nat), .int .i64 (h.snap : Nat), .int .i64 (h.log : Nat)] 68
theorem rm_perm {a b c d : Thing} {R : List Thing} : (R ++ [a, b, c, d]).Perm ((R ++ [b]) ++ [a, c, d]) := by
  rw [List.append_assoc]
  exact List.Perm.append_left _ (List.Perm.swap _ _ _)
theorem rm_perm4 {a b c d : Thing} {R : List Thing} : (R ++ [a, b, c, d]).Perm ((R ++ [c]) ++ [a, b, d]) := by
  rw [List.append_assoc]
  exact List.Perm.append_left _ (List.perm_middle (l₁ := [a, b]) (l₂ := [d]))
theorem rm_perm5 {a b c d e : Thing} {R : List Thing} : (R ++ [a, b, c, d, e]).Perm ((R ++ [b]) ++ [a, c, d, e]) := by
  rw [List.append_assoc]
  exact List.Perm.append_left _ (List.Perm.swap _ _ _)
theorem rm_perm54 {a b c d e : Thing} {R : List Thing} : (R ++ [a, b, c, d, e]).Perm ((R ++ [d]) ++ [a, b, c, e]) := by
  rw [List.append_assoc]
  exact List.Perm.append_left _ (List.perm_middle (l₁ := [a, b, c]) (l₂ := [e]))
section
variable {W : Base} {w : World} {R : List Thing}
/-- What Counts comes to. -/
def CsTo (W : Base) (R : List Thing) (ss : List ByteArray) (e : Ending) (w' : World) : Prop :=
  (∃ h s l, Cnt ss h s l ∧ ∃ p c, e = .returned (.tuple #[hV h, .string s, .slice p l.length c, .bool true]) ∧ St W w' (R ++ [TxT p c l])) ∨
  ((∀ a, a < 2 → ∀ h s l, ¬ Fd ss a h s l) ∧ e = .returned (.tuple #[hV ⟨0, 0, 0, 0⟩, .string ⟨#[]⟩, .slice none 0 0, .bool false]) ∧ St W w' R)

theorem cnt_zero {ss : List ByteArray} {h : WH} {s : ByteArray} {l : List ByteArray} (x : Fd ss 0 h s l) (y : ∀ h' s' l', Fd ss 1 h' s' l' → h'.number < h.number) : Cnt ss h s l := by
  have e : h.number % 2 = 0 := x.ok.par
  refine ⟨by rw [e]; exact x, fun h' s' l' z => ?_⟩
  rw [e] at z
  exact y h' s' l' z
theorem cnt_one {ss : List ByteArray} {h : WH} {s : ByteArray} {l : List ByteArray} (x : Fd ss 1 h s l) (y : ∀ h' s' l', Fd ss 0 h' s' l' → h'.number < h.number) : Cnt ss h s l := by
  have e : h.number % 2 = 1 := x.ok.par
  refine ⟨by rw [e]; exact x, fun h' s' l' z => ?_⟩
  rw [e] at z
  exact y h' s' l' z

set_option maxHeartbeats 2400000 in
set_option maxRecDepth 100000 in
theorem st_rcounts (H : St W w R) (al : Option Addr) (cl : Nat) (ss : List ByteArray) (hin : ∀ w' T, St W w' (R ++ T) → In w' 1 al ss.length cl (strV ss)) (hf : roomN ss.length ≠ 0) (hsz : ∀ i, i < ss.length → (sAt ss i).size = 128) :
    Calls Tryz.prog 28 #[.slice al ss.length cl] w (CsTo W R ss) := by
  have H0 := hid (H.alloc (Obj.cells #[.int .i64 0, .int .i64 0, .int .i64 0, .int .i64 0] 68))
  have HR := hid (fun (w' : World) (T : List Thing) (h : St W w' (R ++ T)) (a : Nat) (ha : a ≤ 1) => st_rright h al cl ss (hin w' T h) hf hsz a ha)
  obtain ⟨n0, hn0⟩ : ∃ n0, ss.length = n0 := ⟨_, rfl⟩
  rw [hn0] at HR ⊢
  clear H hin hf hsz hn0
  have hr0 := HR.out _ _ H0.out 0 (by decide)
  rw [show ((0 : Nat) : Int) = 0 from rfl] at hr0
  have HR0 := hid hr0
  clear hr0
  go_enter Tryz.func28, Tryz.ntmps28
  go_wp2_with fail
  with_reducible refine HR0.out.mono ?_
  rintro e w1 hw1
  clear HR0
  rcases hw1 with ⟨h0, s0, l0, hfd0, p0, c0, rfl, hS1⟩ | ⟨hno0, rfl, hS1⟩
  · have HA := hid (show St W (w1.alloc (hdO h0)) (R ++ [BlkT w.heap.size (Obj.cells #[.int .i64 0, .int .i64 0, .int .i64 0, .int .i64 0] 68), TxT p0 c0 l0, BlkT w1.heap.size (hdO h0)]) from by have h := hS1.alloc (hdO h0); simpa using h)
    have HF0 := hid hfd0
    have hr1 := HR.out _ _ HA.out 1 (by decide)
    rw [show ((1 : Nat) : Int) = 1 from rfl] at hr1
    have HR1 := hid hr1
    clear hS1 hfd0 HR hr1
    unfold hV
    go_wp2_with fail
    with_reducible refine HR1.out.mono ?_
    rintro e w2 hw2
    clear HR1
    rcases hw2 with ⟨h1, s1, l1, hfd1, p1, c1, rfl, hS2⟩ | ⟨hno1, rfl, hS2⟩
    · obtain ⟨w3, hw3⟩ : ∃ w3, w2.alloc (hdO h1) = w3 := ⟨_, rfl⟩
      have HS := hid (show St W w3 (R ++ [BlkT w.heap.size (Obj.cells #[.int .i64 0, .int .i64 0, .int .i64 0, .int .i64 0] 68), TxT p0 c0 l0, BlkT w1.heap.size (hdO h0), TxT p1 c1 l1, BlkT w2.heap.size (hdO h1)]) from by rw [← hw3]; have h := hS2.alloc (hdO h1); simpa using h)
      have HF1 := hid hfd1
      have hpar0 := hfd1.ok.par
      have hpar1 := HF0.out.ok.par
      by_cases hlt : h1.number < h0.number
      · have hlb : decide (h1.number < h0.number) = true := decide_eq_true hlt
        have hlc : decide ((h1.number : Int) < (h0.number : Int)) = true := decide_eq_true (by omega)
        have HC := hid (cnt_zero HF0.out (fun h' s' l' z => by obtain ⟨rfl, _⟩ := z.uniq HF1.out; exact hlt))
        clear hS2 hfd1 hlt hpar0 hpar1
        unfold hV
        have HW3 := hid hw3
        clear hw3
        go_upto_region 3 with (fail)
        rw [HW3.out]
        clear HW3
        have hblz := HS.out.blk (R.length + 0) (b := w.heap.size) (o := (Obj.cells #[.int .i64 0, .int .i64 0, .int .i64 0, .int .i64 0] 68)) (by rw [get_behind]; rfl)
        have z0 := cell_blk (i := 0) hblz rfl
        have z1 := cell_blk (i := 1) hblz rfl
        have z2 := cell_blk (i := 2) hblz rfl
        have z3 := cell_blk (i := 3) hblz rfl
        have y0 := free_blk (i := 0) hblz
        have y1 := free_blk (i := 1) hblz
        have y2 := free_blk (i := 2) hblz
        have y3 := free_blk (i := 3) hblz
        have hbla := HS.out.blk (R.length + 2) (b := w1.heap.size) (o := hdO h0) (by rw [get_behind]; rfl)
        have a0 := cell_blk (i := 0) hbla rfl
        have a1 := cell_blk (i := 1) hbla rfl
        have a2 := cell_blk (i := 2) hbla rfl
        have a3 := cell_blk (i := 3) hbla rfl
        have hblb := HS.out.blk (R.length + 4) (b := w2.heap.size) (o := hdO h1) (by rw [get_behind]; rfl)
        have b0 := cell_blk (i := 0) hblb rfl
        have b1 := cell_blk (i := 1) hblb rfl
        have b2 := cell_blk (i := 2) hblb rfl
        have b3 := cell_blk (i := 3) hblb rfl
        have hltz := lt_of_block hblz
        have H4 := hid (HS.out.blk4 (.int .i64 (h0).number) (.int .i64 (h0).half) (.int .i64 (h0).snap) (.int .i64 (h0).log))
        clear hblz hbla hblb
        go_wp2_with fail
        clear z0 z1 z2 z3 y0 y1 y2 y3 hltz a0 a1 a2 a3 b0 b1 b2 b3
        obtain ⟨wz, hwz⟩ : ∃ wz : World, ((((w3.setCell ⟨w.heap.size, 0, none⟩ (.int .i64 (h0).number)).setCell ⟨w.heap.size, 1, none⟩ (.int .i64 (h0).half)).setCell ⟨w.heap.size, 2, none⟩ (.int .i64 (h0).snap)).setCell ⟨w.heap.size, 3, none⟩ (.int .i64 (h0).log)) = wz := ⟨_, rfl⟩
        have H5 := H4.out
        try simp only [Int.natCast_zero] at H5 hwz
        rw [hwz] at H5 ⊢
        have hbz := H5.blk (R.length + 0) (b := w.heap.size) (by rw [get_behind]; rfl)
        have x0 := cell_blk (i := 0) hbz rfl
        have x1 := cell_blk (i := 1) hbz rfl
        have x2 := cell_blk (i := 2) hbz rfl
        have x3 := cell_blk (i := 3) hbz rfl
        refine bodyPost_ret (v := .tuple #[hV h0, .string s0, .slice p0 l0.length c0, .bool true]) (by simp [hV, results, Tryz.results28, go_sem, x0, x1, x2, x3]) rfl ?_
        exact .inl ⟨h0, s0, l0, HC.out, p0, c0, rfl, H5.sub rm_perm5⟩
      · have hlb : decide (h1.number < h0.number) = false := decide_eq_false hlt
        have hlc : decide ((h1.number : Int) < (h0.number : Int)) = false := decide_eq_false (by omega)
        have HC := hid (cnt_one HF1.out (fun h' s' l' z => by obtain ⟨rfl, _⟩ := z.uniq HF0.out; omega))
        clear hS2 hfd1 hlt hpar0 hpar1
        unfold hV
        have HW3 := hid hw3
        clear hw3
        go_upto_region 3 with (fail)
        rw [HW3.out]
        clear HW3
        have hblz := HS.out.blk (R.length + 0) (b := w.heap.size) (o := (Obj.cells #[.int .i64 0, .int .i64 0, .int .i64 0, .int .i64 0] 68)) (by rw [get_behind]; rfl)
        have z0 := cell_blk (i := 0) hblz rfl
        have z1 := cell_blk (i := 1) hblz rfl
        have z2 := cell_blk (i := 2) hblz rfl
        have z3 := cell_blk (i := 3) hblz rfl
        have y0 := free_blk (i := 0) hblz
        have y1 := free_blk (i := 1) hblz
        have y2 := free_blk (i := 2) hblz
        have y3 := free_blk (i := 3) hblz
        have hbla := HS.out.blk (R.length + 2) (b := w1.heap.size) (o := hdO h0) (by rw [get_behind]; rfl)
        have a0 := cell_blk (i := 0) hbla rfl
        have a1 := cell_blk (i := 1) hbla rfl
        have a2 := cell_blk (i := 2) hbla rfl
        have a3 := cell_blk (i := 3) hbla rfl
        have hblb := HS.out.blk (R.length + 4) (b := w2.heap.size) (o := hdO h1) (by rw [get_behind]; rfl)
        have b0 := cell_blk (i := 0) hblb rfl
        have b1 := cell_blk (i := 1) hblb rfl
        have b2 := cell_blk (i := 2) hblb rfl
        have b3 := cell_blk (i := 3) hblb rfl
        have hltz := lt_of_block hblz
        have H4 := hid (HS.out.blk4 (.int .i64 (h1).number) (.int .i64 (h1).half) (.int .i64 (h1).snap) (.int .i64 (h1).log))
        clear hblz hbla hblb
        go_wp2_with fail
        clear z0 z1 z2 z3 y0 y1 y2 y3 hltz a0 a1 a2 a3 b0 b1 b2 b3
        obtain ⟨wz, hwz⟩ : ∃ wz : World, ((((w3.setCell ⟨w.heap.size, 0, none⟩ (.int .i64 (h1).number)).setCell ⟨w.heap.size, 1, none⟩ (.int .i64 (h1).half)).setCell ⟨w.heap.size, 2, none⟩ (.int .i64 (h1).snap)).setCell ⟨w.heap.size, 3, none⟩ (.int .i64 (h1).log)) = wz := ⟨_, rfl⟩
        have H5 := H4.out
        try simp only [Int.natCast_zero] at H5 hwz
        rw [hwz] at H5 ⊢
        have hbz := H5.blk (R.length + 0) (b := w.heap.size) (by rw [get_behind]; rfl)
        have x0 := cell_blk (i := 0) hbz rfl
        have x1 := cell_blk (i := 1) hbz rfl
        have x2 := cell_blk (i := 2) hbz rfl
        have x3 := cell_blk (i := 3) hbz rfl
        refine bodyPost_ret (v := .tuple #[hV h1, .string s1, .slice p1 l1.length c1, .bool true]) (by simp [hV, results, Tryz.results28, go_sem, x0, x1, x2, x3]) rfl ?_
        exact .inl ⟨h1, s1, l1, HC.out, p1, c1, rfl, H5.sub rm_perm54⟩
    · obtain ⟨w3, hw3⟩ : ∃ w3, w2.alloc (Obj.cells #[.int .i64 0, .int .i64 0, .int .i64 0, .int .i64 0] 68) = w3 := ⟨_, rfl⟩
      have HS := hid (show St W w3 (R ++ [BlkT w.heap.size (Obj.cells #[.int .i64 0, .int .i64 0, .int .i64 0, .int .i64 0] 68), TxT p0 c0 l0, BlkT w1.heap.size (hdO h0), BlkT w2.heap.size (hdO ⟨0, 0, 0, 0⟩)]) from by rw [← hw3]; have h : St W (w2.alloc (Obj.cells #[.int .i64 0, .int .i64 0, .int .i64 0, .int .i64 0] 68)) _ := hS2.alloc (hdO ⟨0, 0, 0, 0⟩); simpa using h)
      have HC := hid (cnt_zero HF0.out (fun h' s' l' z => absurd z (hno1 _ _ _)))
      clear hS2 hno1
      unfold hV
      have HW3 := hid hw3
      clear hw3
      go_upto_region 3 with (fail)
      rw [HW3.out]
      clear HW3
      have hblz := HS.out.blk (R.length + 0) (b := w.heap.size) (o := (Obj.cells #[.int .i64 0, .int .i64 0, .int .i64 0, .int .i64 0] 68)) (by rw [get_behind]; rfl)
      have z0 := cell_blk (i := 0) hblz rfl
      have z1 := cell_blk (i := 1) hblz rfl
      have z2 := cell_blk (i := 2) hblz rfl
      have z3 := cell_blk (i := 3) hblz rfl
      have y0 := free_blk (i := 0) hblz
      have y1 := free_blk (i := 1) hblz
      have y2 := free_blk (i := 2) hblz
      have y3 := free_blk (i := 3) hblz
      have hbla := HS.out.blk (R.length + 2) (b := w1.heap.size) (o := hdO h0) (by rw [get_behind]; rfl)
      have a0 := cell_blk (i := 0) hbla rfl
      have a1 := cell_blk (i := 1) hbla rfl
      have a2 := cell_blk (i := 2) hbla rfl
      have a3 := cell_blk (i := 3) hbla rfl
      have hblb := HS.out.blk (R.length + 3) (b := w2.heap.size) (o := hdO ⟨0, 0, 0, 0⟩) (by rw [get_behind]; rfl)
      have b0 := cell_blk (i := 0) hblb rfl
      have b1 := cell_blk (i := 1) hblb rfl
      have b2 := cell_blk (i := 2) hblb rfl
      have b3 := cell_blk (i := 3) hblb rfl
      have hltz := lt_of_block hblz
      have H4 := hid (HS.out.blk4 (.int .i64 (h0).number) (.int .i64 (h0).half) (.int .i64 (h0).snap) (.int .i64 (h0).log))
      clear hblz hbla hblb
      go_wp2_with fail
      clear z0 z1 z2 z3 y0 y1 y2 y3 hltz a0 a1 a2 a3 b0 b1 b2 b3
      obtain ⟨wz, hwz⟩ : ∃ wz : World, ((((w3.setCell ⟨w.heap.size, 0, none⟩ (.int .i64 (h0).number)).setCell ⟨w.heap.size, 1, none⟩ (.int .i64 (h0).half)).setCell ⟨w.heap.size, 2, none⟩ (.int .i64 (h0).snap)).setCell ⟨w.heap.size, 3, none⟩ (.int .i64 (h0).log)) = wz := ⟨_, rfl⟩
      have H5 := H4.out
      try simp only [Int.natCast_zero] at H5 hwz
      rw [hwz] at H5 ⊢
      have hbz := H5.blk (R.length + 0) (b := w.heap.size) (by rw [get_behind]; rfl)
      have x0 := cell_blk (i := 0) hbz rfl
      have x1 := cell_blk (i := 1) hbz rfl
      have x2 := cell_blk (i := 2) hbz rfl
      have x3 := cell_blk (i := 3) hbz rfl
      refine bodyPost_ret (v := .tuple #[hV h0, .string s0, .slice p0 l0.length c0, .bool true]) (by simp [hV, results, Tryz.results28, go_sem, x0, x1, x2, x3]) rfl ?_
      exact .inl ⟨h0, s0, l0, HC.out, p0, c0, rfl, H5.sub rm_perm⟩
  · have HA := hid (show St W (w1.alloc (Obj.cells #[.int .i64 0, .int .i64 0, .int .i64 0, .int .i64 0] 68)) (R ++ [BlkT w.heap.size (Obj.cells #[.int .i64 0, .int .i64 0, .int .i64 0, .int .i64 0] 68), BlkT w1.heap.size (hdO ⟨0, 0, 0, 0⟩)]) from by have h : St W (w1.alloc (Obj.cells #[.int .i64 0, .int .i64 0, .int .i64 0, .int .i64 0] 68)) _ := hS1.alloc (hdO ⟨0, 0, 0, 0⟩); simpa using h)
    have HNO0 := hid hno0
    have hr1 := HR.out _ _ HA.out 1 (by decide)
    rw [show ((1 : Nat) : Int) = 1 from rfl] at hr1
    have HR1 := hid hr1
    clear hS1 hno0 HR hr1
    unfold hV
    go_wp2_with fail
    with_reducible refine HR1.out.mono ?_
    rintro e w2 hw2
    clear HR1
    rcases hw2 with ⟨h1, s1, l1, hfd1, p1, c1, rfl, hS2⟩ | ⟨hno1, rfl, hS2⟩
    · obtain ⟨w3, hw3⟩ : ∃ w3, w2.alloc (hdO h1) = w3 := ⟨_, rfl⟩
      have HS := hid (show St W w3 (R ++ [BlkT w.heap.size (Obj.cells #[.int .i64 0, .int .i64 0, .int .i64 0, .int .i64 0] 68), BlkT w1.heap.size (hdO ⟨0, 0, 0, 0⟩), TxT p1 c1 l1, BlkT w2.heap.size (hdO h1)]) from by rw [← hw3]; have h := hS2.alloc (hdO h1); simpa using h)
      have HC := hid (cnt_one hfd1 (fun h' s' l' z => absurd z (HNO0.out _ _ _)))
      clear hS2 hfd1
      unfold hV
      have HW3 := hid hw3
      clear hw3
      go_upto_region 3 with (fail)
      rw [HW3.out]
      clear HW3
      have hblz := HS.out.blk (R.length + 0) (b := w.heap.size) (o := (Obj.cells #[.int .i64 0, .int .i64 0, .int .i64 0, .int .i64 0] 68)) (by rw [get_behind]; rfl)
      have z0 := cell_blk (i := 0) hblz rfl
      have z1 := cell_blk (i := 1) hblz rfl
      have z2 := cell_blk (i := 2) hblz rfl
      have z3 := cell_blk (i := 3) hblz rfl
      have y0 := free_blk (i := 0) hblz
      have y1 := free_blk (i := 1) hblz
      have y2 := free_blk (i := 2) hblz
      have y3 := free_blk (i := 3) hblz
      have hbla := HS.out.blk (R.length + 1) (b := w1.heap.size) (o := hdO ⟨0, 0, 0, 0⟩) (by rw [get_behind]; rfl)
      have a0 := cell_blk (i := 0) hbla rfl
      have a1 := cell_blk (i := 1) hbla rfl
      have a2 := cell_blk (i := 2) hbla rfl
      have a3 := cell_blk (i := 3) hbla rfl
      have hblb := HS.out.blk (R.length + 3) (b := w2.heap.size) (o := hdO h1) (by rw [get_behind]; rfl)
      have b0 := cell_blk (i := 0) hblb rfl
      have b1 := cell_blk (i := 1) hblb rfl
      have b2 := cell_blk (i := 2) hblb rfl
      have b3 := cell_blk (i := 3) hblb rfl
      have hltz := lt_of_block hblz
      have H4 := hid (HS.out.blk4 (.int .i64 (h1).number) (.int .i64 (h1).half) (.int .i64 (h1).snap) (.int .i64 (h1).log))
      clear hblz hbla hblb
      go_wp2_with fail
      clear z0 z1 z2 z3 y0 y1 y2 y3 hltz a0 a1 a2 a3 b0 b1 b2 b3
      obtain ⟨wz, hwz⟩ : ∃ wz : World, ((((w3.setCell ⟨w.heap.size, 0, none⟩ (.int .i64 (h1).number)).setCell ⟨w.heap.size, 1, none⟩ (.int .i64 (h1).half)).setCell ⟨w.heap.size, 2, none⟩ (.int .i64 (h1).snap)).setCell ⟨w.heap.size, 3, none⟩ (.int .i64 (h1).log)) = wz := ⟨_, rfl⟩
      have H5 := H4.out
      try simp only [Int.natCast_zero] at H5 hwz
      rw [hwz] at H5 ⊢
      have hbz := H5.blk (R.length + 0) (b := w.heap.size) (by rw [get_behind]; rfl)
      have x0 := cell_blk (i := 0) hbz rfl
      have x1 := cell_blk (i := 1) hbz rfl
      have x2 := cell_blk (i := 2) hbz rfl
      have x3 := cell_blk (i := 3) hbz rfl
      refine bodyPost_ret (v := .tuple #[hV h1, .string s1, .slice p1 l1.length c1, .bool true]) (by simp [hV, results, Tryz.results28, go_sem, x0, x1, x2, x3]) rfl ?_
      exact .inl ⟨h1, s1, l1, HC.out, p1, c1, rfl, H5.sub rm_perm4⟩
    · obtain ⟨w3, hw3⟩ : ∃ w3, w2.alloc (Obj.cells #[.int .i64 0, .int .i64 0, .int .i64 0, .int .i64 0] 68) = w3 := ⟨_, rfl⟩
      have HS := hid (show St W w3 (R ++ [BlkT w.heap.size (Obj.cells #[.int .i64 0, .int .i64 0, .int .i64 0, .int .i64 0] 68), BlkT w1.heap.size (hdO ⟨0, 0, 0, 0⟩), BlkT w2.heap.size (hdO ⟨0, 0, 0, 0⟩)]) from by rw [← hw3]; have h : St W (w2.alloc (Obj.cells #[.int .i64 0, .int .i64 0, .int .i64 0, .int .i64 0] 68)) _ := hS2.alloc (hdO ⟨0, 0, 0, 0⟩); simpa using h)
      have HNO1 := hid hno1
      clear hS2 hno1
      unfold hV
      have HW3 := hid hw3
      clear hw3
      go_upto_region 3 with (fail)
      rw [HW3.out]
      clear HW3
      have hblz := HS.out.blk (R.length + 0) (b := w.heap.size) (o := (Obj.cells #[.int .i64 0, .int .i64 0, .int .i64 0, .int .i64 0] 68)) (by rw [get_behind]; rfl)
      have z0 := cell_blk (i := 0) hblz rfl
      have z1 := cell_blk (i := 1) hblz rfl
      have z2 := cell_blk (i := 2) hblz rfl
      have z3 := cell_blk (i := 3) hblz rfl
      have y0 := free_blk (i := 0) hblz
      have y1 := free_blk (i := 1) hblz
      have y2 := free_blk (i := 2) hblz
      have y3 := free_blk (i := 3) hblz
      have hbla := HS.out.blk (R.length + 1) (b := w1.heap.size) (o := hdO ⟨0, 0, 0, 0⟩) (by rw [get_behind]; rfl)
      have a0 := cell_blk (i := 0) hbla rfl
      have a1 := cell_blk (i := 1) hbla rfl
      have a2 := cell_blk (i := 2) hbla rfl
      have a3 := cell_blk (i := 3) hbla rfl
      have hblb := HS.out.blk (R.length + 2) (b := w2.heap.size) (o := hdO ⟨0, 0, 0, 0⟩) (by rw [get_behind]; rfl)
      have b0 := cell_blk (i := 0) hblb rfl
      have b1 := cell_blk (i := 1) hblb rfl
      have b2 := cell_blk (i := 2) hblb rfl
      have b3 := cell_blk (i := 3) hblb rfl
      have hltz := lt_of_block hblz
      have H4 := hid (HS.out.blk4 (.int .i64 ((⟨0, 0, 0, 0⟩ : WH)).number) (.int .i64 ((⟨0, 0, 0, 0⟩ : WH)).half) (.int .i64 ((⟨0, 0, 0, 0⟩ : WH)).snap) (.int .i64 ((⟨0, 0, 0, 0⟩ : WH)).log))
      clear hblz hbla hblb
      go_wp2_with fail
      clear z0 z1 z2 z3 y0 y1 y2 y3 hltz a0 a1 a2 a3 b0 b1 b2 b3
      obtain ⟨wz, hwz⟩ : ∃ wz : World, ((((w3.setCell ⟨w.heap.size, 0, none⟩ (.int .i64 ((⟨0, 0, 0, 0⟩ : WH)).number)).setCell ⟨w.heap.size, 1, none⟩ (.int .i64 ((⟨0, 0, 0, 0⟩ : WH)).half)).setCell ⟨w.heap.size, 2, none⟩ (.int .i64 ((⟨0, 0, 0, 0⟩ : WH)).snap)).setCell ⟨w.heap.size, 3, none⟩ (.int .i64 ((⟨0, 0, 0, 0⟩ : WH)).log)) = wz := ⟨_, rfl⟩
      have H5 := H4.out
      try simp only [Int.natCast_zero] at H5 hwz
      rw [hwz] at H5 ⊢
      have hbz := H5.blk (R.length + 0) (b := w.heap.size) (by rw [get_behind]; rfl)
      have x0 := cell_blk (i := 0) hbz rfl
      have x1 := cell_blk (i := 1) hbz rfl
      have x2 := cell_blk (i := 2) hbz rfl
      have x3 := cell_blk (i := 3) hbz rfl
      refine bodyPost_ret (v := .tuple #[hV (⟨0, 0, 0, 0⟩ : WH), .string ⟨#[]⟩, .slice none 0 0, .bool false]) (by simp [hV, results, Tryz.results28, go_sem, x0, x1, x2, x3]) rfl ?_
      refine .inr ⟨fun a ha => ?_, rfl, H5.drop⟩
      match a, ha with
      | 0, _ => exact HNO0.out
      | 1, _ => exact HNO1.out
end
end Go.Proofs.YthghnlgojmedgaaGreat

/-
  gafferref02: Num, Text (a copy of a part of XX2 for the dumps of Wal).
-/
namespace Go.Proofs.YthghnlgojmedgaaGreat
open Go.RowKit
set_option linter.unusedVariables false
set_option linter.unusedSimpArgs false
theorem nf_le (n : Nat) (hn : n < 18446744073709551616) : (nf n).size ≤ 10 := by
  have := Lib.uvarint_length64 (x := n) hn
  show (Lib.uvarint n).toArray.size ≤ 10
  simpa using this

set_option maxHeartbeats 1600000 in
set_option maxRecDepth 100000 in
theorem rnum_walk (w : World) (n : Nat) (hn : n < 18446744073709551616) :
    Calls Tryz.prog 74 #[.int .u64 n] w fun e w' => e = .returned (.string (nf n)) ∧ Fr [] w w' := by
  obtain ⟨i0, hi0, hz0, hz1, hz2⟩ := info_parts info_u8
  have HI := hid (And.intro hi0 (And.intro hz0 (And.intro hz1 hz2)))
  clear hi0 hz0 hz1 hz2
  go_enter Tryz.func74, Tryz.ntmps74
  go_wp2_with fail
  go_loopw [0, 3] (fun nv bv wr => ∃ (m : Nat) (pre : List UInt8), m ≤ n ∧ nv = .int .u64 m ∧ pre ++ Lib.uvarint m = Lib.uvarint n ∧ wr.ownsRow 0 5 1 bv pre.length (Lib.byteCells pre) ∧ (∀ x, x ∈ bv.ownBlock.toList → w.heap.size ≤ x) ∧ Fr [] w wr) (fun nv _ _ => (intOf nv).toNat)
  case atStart => exact ⟨n, [], Nat.le_refl _, rfl, rfl, ⟨by simp [Lib.byteCells], .inr ⟨w.heap.size, 0, #[], rfl, Nat.zero_le _, blk_alloc_at _ _ _ rfl, Nat.le_refl _, by decide, by simp, by simp [Lib.byteCells]⟩⟩, by simp [Value.ownBlock], (Fr.refl _ _).alloc _⟩
  case round =>
    obtain ⟨m, pre, hm, rfl, hpre, ho, hb, hF⟩ := hrel
    have hl10 := Lib.uvarint_length64 hn
    have hlp : pre.length ≤ 10 := by
      have := congrArg List.length hpre
      simp at this; omega
    obtain ⟨a, c, rfl, _, _⟩ := ownsRow_In ho (fun j => (Lib.byteCells pre).getD j undef) (fun j hj => by simp [Lib.byteCells, show j < pre.length by omega])
    have HZ := hid (And.intro hpre (And.intro ho (And.intro hb hF)))
    clear hpre ho hb hF
    by_cases hbig : 127 < m
    · have HU := hid (Lib.uvarint_big (x := m) (by omega))
      have h128 : (128 : Int) ≤ m := by omega
      go_wp2_with (at_builtin; refine wpList_append_blk rfl (.tmp 7) (.tmp 12) 71 rfl 5 i0 (.int .u8 0) 1 1 Tryz.underlying71 HI.out.1 HI.out.2.1 HI.out.2.2.1 HI.out.2.2.2 rfl (by decide) (.slice a pre.length c) pre.length (Lib.byteCells pre) rfl (ownsRow_keep (S := []) HZ.out.2.1 ((Fr.refl [] _).alloc _) (by simp)) ⟨wr.heap.size, 0, none⟩ 1 1 [.int .u8 ((m : Int) % 128 + 128)] rfl rfl ?qb ?qc ?qd ?qe ?_)
      case qb => exact news_alloc wr [.int .u8 ((m : Int) % 128 + 128)] _
      case qc => intro u hu; simp at hu; subst hu; rfl
      case qd => unfold maxLen; omega
      case qe => omega
      intro v w1 ho hF hb hn2
      rw [show (m : Int) % 128 + 128 = ((m % 128 + 128 : Nat) : Int) by omega, ← Lib.byteCells_snoc pre (show m % 128 + 128 < 256 by omega)] at ho
      obtain ⟨g, c', rfl, _⟩ := ownsRow_shape ho (by omega)
      have hFw : Fr [] w w1 := ((HZ.out.2.2.2).alloc (.cells #[.int .u8 ((m : Int) % 128 + 128)] 5)).step hF (fun x hx => .inr (HZ.out.2.2.1 x hx))
      have hbb : ∀ x, x ∈ (Value.slice (some ⟨g, 0, none⟩) (pre.length + 1) c').ownBlock.toList → w.heap.size ≤ x := fun x hx => by
        rcases hb x (by simpa using hx) with h | h
        · exact HZ.out.2.2.1 x (by simpa using h)
        · have := HZ.out.2.2.2.size
          omega
      have H2 := hid (And.intro ho (And.intro hFw hbb))
      clear ho hF hb hn2 hFw hbb
      go_wp2_with fail
      go_roundw
      case rel => exact ⟨m / 128, pre ++ [(m % 128 + 128).toUInt8], by omega, by go_num, by rw [← HZ.out.1, HU.out]; simp, by simpa using H2.out.1, by simpa using H2.out.2.2, H2.out.2.1⟩
      case measure => simp [intOf]; omega
    · have HU := hid (Lib.uvarint_small (x := m) (by omega))
      have hm8 : (m : Int) % 256 = (m : Int) := by omega
      have h128 : ¬ (128 : Int) ≤ m := by omega
      go_wp2_with (at_builtin; refine wpList_append_blk rfl (.tmp 16) (.tmp 19) 71 rfl 5 i0 (.int .u8 0) 1 1 Tryz.underlying71 HI.out.1 HI.out.2.1 HI.out.2.2.1 HI.out.2.2.2 rfl (by decide) (.slice a pre.length c) pre.length (Lib.byteCells pre) rfl (ownsRow_keep (S := []) HZ.out.2.1 ((Fr.refl [] _).alloc _) (by simp)) ⟨wr.heap.size, 0, none⟩ 1 1 [.int .u8 m] rfl rfl ?qb ?qc ?qd ?qe ?_)
      case qc => rfl
      case qd => unfold maxLen; omega
      case qe => omega
      intro v w1 ho hF hb hn2
      rw [← Lib.byteCells_snoc pre (show m < 256 by omega)] at ho
      obtain ⟨g, c', rfl, _⟩ := ownsRow_shape ho (by omega)
      have hFw : Fr [] w w1 := ((HZ.out.2.2.2).alloc (.cells #[.int .u8 m] 5)).step hF (fun x hx => .inr (HZ.out.2.2.1 x hx))
      have H2 := hid (And.intro ho hFw)
      clear ho hF hb hn2 hFw
      go_wp2_with (refine wpList_text' rfl 71 9 (.tmp 20) rfl 5 Tryz.underlying71 Tryz.underlying5 Tryz.underlying9 g 0 (pre.length + 1) c' (pre ++ [m.toUInt8]) (by simp) rfl (ownsRow_cells H2.out.1) ?_)
      go_wp2_with fail
      go_ret
      exact ⟨by unfold nf; rw [← HZ.out.1, HU.out]; rfl, H2.out.2⟩

theorem rtext_walk (w : World) (s : ByteArray) (hs : s.size ≤ 140737488355328) :
    Calls Tryz.prog 72 #[.string s] w fun e w' => e = .returned (.string (tf s)) ∧ Fr [] w w' := by
  have hl : (nf s.size).size ≤ 10 := nf_le _ (by omega)
  have hl2 : ¬ 9223372036854775807 < (nf s.size).size + s.size := by omega
  have HN := hid (fun w => rnum_walk w s.size (by omega))
  go_enter Tryz.func72, Tryz.ntmps72
  go_wp2_with fail
  refine (HN.out _).mono ?_
  rintro e w1 ⟨rfl, hF⟩
  go_wp2_with fail
  go_ret
  exact ⟨rfl, hF⟩


end Go.Proofs.YthghnlgojmedgaaGreat

/-
  The document's log: as a thing; gone, dead, Copy, Room, Open, Format.
-/
namespace Go.Proofs.YthghnlgojmedgaaGreat
open Go.RowKit
set_option linter.unusedVariables false
set_option linter.unusedSimpArgs false

abbrev rlO (X : Nat) (x : WS) : Obj := .cells #[.pointer (some ⟨X, 0, none⟩), .bool x.dead, .int .i64 (x.h.number : Nat), .int .i64 (x.h.half : Nat), .int .i64 (x.h.snap : Nat), .int .i64 (x.h.log : Nat), .int .i64 (x.n : Nat)] 100
def RlT (Y X : Nat) (x : WS) : Thing := BlkT Y (rlO X x)
/-- The document's disk, with its lists. -/
def XkP (X : Nat) (d : DS) (a : Option Addr) (c : Nat) (rv : Value) : Thing := fun w F G => F = [X] ∧ G = (Value.slice a d.sec.length c).ownBlock.toList ++ rv.ownBlock.toList ∧
  w.heap[X]? = some (.cells #[.slice a d.sec.length c, rv, .int .i64 d.armed, .int .i64 d.bytes, .bool d.dead] 38 (0, 0)) ∧
  w.ownsRow 0 9 1 (.slice a d.sec.length c) d.sec.length (strs d.sec d.sec.length) ∧ w.ownsRow 0 86 2 rv d.raw.length (rawCells d.raw)
instance (X : Nat) (d : DS) (a : Option Addr) (c : Nat) (rv : Value) : Loc (XkP X d a c rv) where
  keep := fun ⟨h1, h2, h3, h4, h5⟩ hF hd hg => ⟨h1, h2, hF.keep h3 (hd _ (by simp [h1])), owns_keep h4 hF (fun g h => hg g (by simp only [h2, List.mem_append]; exact .inl h)), owns_keep h5 hF (fun g h => hg g (by simp only [h2, List.mem_append]; exact .inr h))⟩
  lt := fun ⟨h1, h2, h3, h4, h5⟩ => ⟨fun x hx => by subst h1; simp at hx; subst hx; exact lt_of_block h3, fun x hx => by
    subst h2
    rcases List.mem_append.1 hx with h | h
    · exact owns_lt h4 x h
    · exact owns_lt h5 x h⟩
section
variable {W : Base} {w : World} {R : List Thing}
theorem St.pin (H : St W w R) (i : Nat) {X : Nat} {d : DS} (hi : R[i]? = some (XkT X d)) : ∃ a c rv, St W w (R.set i (XkP X d a c rv)) := by
  obtain ⟨F, G, hA, h2, h3, hset⟩ := H.atG i hi
  obtain ⟨sv, rv, e1, e2, h4, h5, h6⟩ := hA
  obtain ⟨a, c, rfl, _⟩ := owns_In h5 (strV d.sec) (fun j hj => strs_get _ _ j (by omega))
  exact ⟨a, c, rv, hset w F G _ inferInstance ⟨e1, e2, h4, h5, h6⟩ (Fr.refl _ _) (fun x hx => .inl hx) (fun x hx => .inr (.inl hx)) h3⟩
theorem St.unpin (H : St W w R) (i : Nat) {X : Nat} {d : DS} {a : Option Addr} {c : Nat} {rv : Value} (hi : R[i]? = some (XkP X d a c rv)) : St W w (R.set i (XkT X d)) :=
  H.weakAt i hi inferInstance (fun F G ⟨h1, h2, h3, h4, h5⟩ => ⟨_, _, h1, h2, h3, h4, h5⟩)
theorem St.xkp (H : St W w R) (i : Nat) {X : Nat} {d : DS} {a : Option Addr} {c : Nat} {rv : Value} (hi : R[i]? = some (XkP X d a c rv)) :
    w.heap[X]? = some (.cells #[.slice a d.sec.length c, rv, .int .i64 d.armed, .int .i64 d.bytes, .bool d.dead] 38 (0, 0)) ∧ In w 1 a d.sec.length c (strV d.sec) := by
  obtain ⟨F, G, _, _, h3, h4, _⟩ := H.getG i hi
  obtain ⟨a', c', e, h, _⟩ := owns_In h4 (strV d.sec) (fun j hj => strs_get _ _ j (by omega))
  simp only [Value.slice.injEq, true_and] at e
  obtain ⟨rfl, rfl⟩ := e
  exact ⟨h3, h⟩
/-- Counts of a disk's sectors. -/
theorem st_rcnt (H : St W w R) (i : Nat) {X : Nat} {d : DS} (hi : R[i]? = some (XkT X d)) (hw : d.wf) (hf : roomN d.sec.length ≠ 0) :
    ∃ a c rv, w.heap[X]? = some (.cells #[.slice a d.sec.length c, rv, .int .i64 d.armed, .int .i64 d.bytes, .bool d.dead] 38 (0, 0)) ∧
      Calls Tryz.prog 28 #[.slice a d.sec.length c] w (CsTo W R d.sec) := by
  obtain ⟨a, c, rv, H1⟩ := H.pin i hi
  have hil := lt_of_get hi
  have hp : (R.set i (XkP X d a c rv))[i]? = some (XkP X d a c rv) := List.getElem?_set_self hil
  refine ⟨a, c, rv, (H1.xkp i hp).1, ?_⟩
  have hback : ∀ T, ((R.set i (XkP X d a c rv)) ++ T).set i (XkT X d) = R ++ T := fun T => by
    rw [List.set_append_left _ _ (by rw [List.length_set]; exact hil), List.set_set, things_set_self hi]
  have hget : ∀ T : List Thing, ((R.set i (XkP X d a c rv)) ++ T)[i]? = some (XkP X d a c rv) := fun T => by rw [List.getElem?_append_left (by rw [List.length_set]; exact hil)]; exact hp
  refine (st_rcounts H1 a c d.sec (fun w' T h => (h.xkp i (hget T)).2) hf hw.sz).mono ?_
  rintro e w' (⟨h, s, l, hc, p, c', rfl, hS⟩ | ⟨hno, rfl, hS⟩)
  · refine .inl ⟨h, s, l, hc, p, c', rfl, ?_⟩
    have h9 := hS.unpin i (hget _)
    rwa [hback] at h9
  · refine .inr ⟨hno, rfl, ?_⟩
    have h9 := hS.unpin i hp
    rwa [List.set_set, things_set_self hi] at h9

theorem st_rgone (H : St W w R) (i j : Nat) {Y X : Nat} {x : WS} {d : DS} (hi : R[i]? = some (RlT Y X x)) (hj : R[j]? = some (XkT X d)) :
    Calls Tryz.prog 71 #[.pointer (some ⟨Y, 0, none⟩)] w fun e w' => e = .returned (.bool (x.dead || d.dead)) ∧ St W w' (R.set i (RlT Y X { x with dead := x.dead || d.dead })) := by
  have hb := H.blk i hi
  have c0 := cell_blk (i := 0) hb rfl
  have c1 := cell_blk (i := 1) hb rfl
  have f1 := free_blk (i := 1) hb
  have hl := lt_of_block hb
  obtain ⟨_, _, sv, rv, _, _, x5, _⟩ := H.getG j hj
  have d4 := cell_blk (i := 4) x5 rfl
  have HS := hid (fun b => H.setBlk i hi 1 (.bool b))
  have HH := hid H
  have HI := hid hi
  clear H hb hi hj x5
  cases hd : d.dead
  · rw [hd] at d4
    go_enter Tryz.func71, Tryz.ntmps71
    go_wp2_with fail
    go_ret
    refine ⟨by simp, ?_⟩
    have h := things_set_self HI.out
    have e : ({ x with dead := x.dead || false } : WS) = x := by cases x; simp
    rw [e, h]
    exact HH.out
  · rw [hd] at d4
    go_enter Tryz.func71, Tryz.ntmps71
    go_wp2_with fail
    go_ret
    refine ⟨by simp, ?_⟩
    have h := HS.out true
    simpa [RlT] using h
theorem st_rdead (H : St W w R) (i : Nat) {Y X : Nat} {x : WS} (hi : R[i]? = some (RlT Y X x)) (z : Int) :
    Calls Tryz.prog 86 #[.pointer (some ⟨Y, 0, none⟩), .int .i64 z] w fun e w' => e = .returned (.bool (z != 0)) ∧ St W w' (R.set i (RlT Y X { x with dead := x.dead || (z != 0) })) := by
  have hb := H.blk i hi
  have c1 := cell_blk (i := 1) hb rfl
  have f1 := free_blk (i := 1) hb
  have hl := lt_of_block hb
  have HS := hid (fun b => H.setBlk i hi 1 (.bool b))
  have HH := hid H
  have HI := hid hi
  clear H hb hi
  cases hz : (z != 0)
  · go_enter Tryz.func86, Tryz.ntmps86
    go_wp2_with fail
    go_ret
    refine ⟨by simp, ?_⟩
    have e : ({ x with dead := x.dead || false } : WS) = x := by cases x; simp
    rw [e, things_set_self HI.out]
    exact HH.out
  · go_enter Tryz.func86, Tryz.ntmps86
    go_wp2_with fail
    go_ret
    refine ⟨by simp, ?_⟩
    have h := HS.out true
    simpa [RlT] using h
theorem st_rwcopy (H : St W w R) (i : Nat) {Y X : Nat} {x : WS} (hi : R[i]? = some (RlT Y X x)) (C : Nat) :
    Calls Tryz.prog 58 #[.pointer (some ⟨Y, 0, none⟩), .pointer (some ⟨C, 0, none⟩)] w fun e w' => ∃ N, e = .returned (.pointer (some ⟨N, 0, none⟩)) ∧ St W w' (R ++ [RlT N C x]) := by
  have hb := H.blk i hi
  have c0 := cell_blk (i := 0) hb rfl
  have c1 := cell_blk (i := 1) hb rfl
  have c2 := cell_blk (i := 2) hb rfl
  have c3 := cell_blk (i := 3) hb rfl
  have c4 := cell_blk (i := 4) hb rfl
  have c5 := cell_blk (i := 5) hb rfl
  have c6 := cell_blk (i := 6) hb rfl
  have HH := hid H
  clear H hb
  go_enter Tryz.func58, Tryz.ntmps58
  go_wp2_with fail
  go_ret
  exact ⟨_, rfl, HH.out.alloc _⟩
end
end Go.Proofs.YthghnlgojmedgaaGreat

/-
  The document's log: Room, Open, Format.
-/
namespace Go.Proofs.YthghnlgojmedgaaGreat
open Go.RowKit
set_option linter.unusedVariables false
set_option linter.unusedSimpArgs false

/-- The longest record that there is room for, among the first k. -/
structure RmI (left k n : Nat) : Prop where
  le : n ≤ k
  fit : n = 0 ∨ (nf n).size + n ≤ left
  no : ∀ j, n < j → j ≤ k → left < (nf j).size + j
theorem RmI.eq {left n : Nat} (h : RmI left 2048 n) : n = rmL left (min 2048 left) := by
  obtain ⟨h1, h2, h3⟩ := rmL_spec left (min 2048 left)
  generalize rmL left (min 2048 left) = r at h1 h2 h3
  rcases Nat.lt_trichotomy n r with hlt | heq | hgt
  · have := h.no r hlt (by omega)
    omega
  · exact heq
  · have hf := h.fit
    have := h3 n hgt (by have := h.le; omega)
    omega
theorem RmI.yes {left k n : Nat} (h : RmI left k n) (hf : (nf (k + 1)).size + (k + 1) ≤ left) : RmI left (k + 1) (k + 1) :=
  ⟨Nat.le_refl _, .inr hf, fun j h1 h2 => by omega⟩
theorem RmI.skip {left k n : Nat} (h : RmI left k n) (hf : left < (nf (k + 1)).size + (k + 1)) : RmI left (k + 1) n :=
  ⟨by have := h.le; omega, h.fit, fun j h1 h2 => by
    by_cases hj : j = k + 1
    · subst hj; exact hf
    · exact h.no j h1 (by omega)⟩
theorem fits_zero {n : Nat} : roomN n / 128 = 0 ↔ roomN n = 0 := by
  constructor
  · intro h
    by_cases h0 : roomN n = 0
    · exact h0
    · obtain ⟨h1, h2, h3, h4⟩ := roomN_ok h0; omega
  · intro h; rw [h]
section
variable {W : Base} {w : World} {R : List Thing}
theorem St.xk (H : St W w R) (i : Nat) {X : Nat} {d : DS} (hi : R[i]? = some (XkT X d)) : ∃ a c rv, w.heap[X]? = some (.cells #[.slice a d.sec.length c, rv, .int .i64 d.armed, .int .i64 d.bytes, .bool d.dead] 38 (0, 0)) := by
  obtain ⟨a, c, rv, H1⟩ := H.pin i hi
  exact ⟨a, c, rv, (H1.xkp i (List.getElem?_set_self (lt_of_get hi))).1⟩
set_option maxHeartbeats 800000 in
set_option maxRecDepth 100000 in
theorem st_rroom (H : St W w R) (i j : Nat) {Y X : Nat} {x : WS} {d : DS} (hi : R[i]? = some (RlT Y X x)) (hj : R[j]? = some (XkT X d)) (L : LgI x d) :
    Calls Tryz.prog 59 #[.pointer (some ⟨Y, 0, none⟩)] w fun e w' => e = .returned (.int .i64 (x.room d : Nat)) ∧ St W w' R := by
  have hb := H.blk i hi
  have c0 := cell_blk (i := 0) hb rfl
  have c4 := cell_blk (i := 4) hb rfl
  have c5 := cell_blk (i := 5) hb rfl
  obtain ⟨a, c, rv, hx⟩ := H.xk j hj
  have d0 := cell_blk (i := 0) hx rfl
  have hf := L.fit
  obtain ⟨k1, k2, k3, k4⟩ := roomN_ok hf
  have h1 := roomN_le d.sec.length
  have h2 := L.room
  obtain ⟨lf, hlf⟩ : ∃ lf, x.left d = lf := ⟨_, rfl⟩
  have hle : lf ≤ 65536 := by rw [← hlf]; unfold WS.left; omega
  obtain ⟨n, hn⟩ : ∃ n, d.sec.length = n := ⟨_, rfl⟩
  have hrn : roomN n = (n / 2 - 1) * 128 := by rw [← hn]; exact k4
  have hlf2 : lf + x.h.snap + x.h.log = roomN n := by rw [← hlf, ← hn]; unfold WS.left; omega
  rw [hn] at d0 k1 k2 k3 h1 h2
  have e0 : IntKind.i64.wrap ((n : Int) / 2) = (n : Int) / 2 := IntWalk.i64_in _ (by omega)
  have e1 : IntKind.i64.wrap ((n : Int) / 2 - 1) = (n : Int) / 2 - 1 := IntWalk.i64_in _ (by omega)
  have e2 : IntKind.i64.wrap (128 * ((n : Int) / 2 - 1)) = 128 * ((n : Int) / 2 - 1) := IntWalk.i64_in _ (by omega)
  have e3 : IntKind.i64.wrap (128 * ((n : Int) / 2 - 1) - x.h.snap) = 128 * ((n : Int) / 2 - 1) - x.h.snap := IntWalk.i64_in _ (by omega)
  have e4 : IntKind.i64.wrap (128 * ((n : Int) / 2 - 1) - x.h.snap - x.h.log) = (lf : Int) := by rw [IntWalk.i64_in _ (by omega)]; omega
  have HRES := hid (show x.room d = rmL lf (min 2048 lf) by unfold WS.room; rw [hlf])
  rw [HRES.out]
  have HH := hid H
  have HLE := hid hle
  clear H hb hi hj L hf h1 h2 hlf hle hn hrn hlf2 k1 k2 k3 k4 hx
  go_enter Tryz.func59, Tryz.ntmps59
  go_wp2_with fail
  go_upto_region 1 with (fail)
  go_cut [3] from 6 (fun s3 wx => s3 = .int .i64 lf ∧ ∃ nq, wx = w.drewN nq)
  case first =>
    have htd : (n : Int).tdiv 2 = (n : Int) / 2 := Int.tdiv_eq_ediv_of_nonneg (by omega)
    go_quiet (fail)
    go_wp2_with fail
    go_meet
    first
      | exact ⟨rfl, _, rfl⟩
      | exact ⟨by rw [e4], _, rfl⟩
  obtain ⟨rfl, nq, rfl⟩ := hcut
  have HS := hid (HH.out.drewN nq)
  generalize w.drewN nq = w1 at HS ⊢
  clear c0 c4 c5 d0 e0 e1 e2 e3 e4
  have HNUM := hid (fun (w : World) (n : Nat) (h : n ≤ 2048) => rnum_walk w n (by omega))
  go_wp2_with fail
  go_loopw [4, 5] (fun nv kv wr => ∃ k n : Nat, k ≤ 2048 ∧ kv = .int .i64 ((k + 1 : Nat) : Int) ∧ nv = .int .i64 n ∧ Hid (RmI lf k n) ∧ St W wr R) (fun _ kv _ => 2050 - (intOf kv).toNat)
  case atStart => exact ⟨0, 0, by decide, rfl, rfl, hid ⟨Nat.le_refl _, .inl rfl, fun j h1 h2 => by omega⟩, HS.out⟩
  case round =>
    obtain ⟨k, n, hk, rfl, rfl, hI, hS⟩ := hrel
    have HSS := hid hS
    clear hS
    by_cases hend : k = 2048
    · subst hend
      have HI := hid hI.out.eq
      have b1 : decide (((2048 + 1 : Nat) : Int) ≤ 2048) = false := by decide
      clear hk
      go_wp2_with fail
      go_ret
      exact ⟨by rw [← HI.out]; rfl, HSS.out⟩
    · obtain ⟨q, hq⟩ : ∃ q, k + 1 = q := ⟨_, rfl⟩
      have hq1 : q ≤ 2048 := by omega
      have b1 : decide ((q : Int) ≤ 2048) = true := decide_eq_true (by omega)
      have b1' : decide (q ≤ 2048) = true := decide_eq_true hq1
      have hcv : IntKind.u64.wrap (q : Int) = (q : Int) := u64_nat _ (by omega)
      have HP := hid (HNUM.out wr q hq1)
      have hsz := nf_two hq1
      obtain ⟨nb, hnb⟩ : ∃ nb, nf q = nb := ⟨_, rfl⟩
      rw [hnb] at HP hsz
      rw [hq]
      have hwn : IntKind.i64.wrap ((nb.size : Int) + q) = (nb.size : Int) + q := IntWalk.i64_in _ (by omega)
      have hwm : IntKind.i64.wrap ((q : Int) + 1) = (q : Int) + 1 := IntWalk.i64_in _ (by omega)
      have HQ := hid (And.intro hq (And.intro hq1 hnb))
      clear hnb hq hq1 hsz hk hend
      go_wp2_with fail
      refine HP.out.mono ?_
      rintro e w3 ⟨rfl, hF3⟩
      have HS3 := hid (HSS.out.same hF3)
      clear hF3
      by_cases hfit : nb.size + q ≤ lf
      · have b2 : decide ((nb.size : Int) + q ≤ lf) = true := decide_eq_true (by omega)
        have b2' : decide (nb.size + q ≤ lf) = true := decide_eq_true hfit
        have HR := hid (show RmI lf (k + 1) (k + 1) from hI.out.yes (by rw [HQ.out.1, HQ.out.2.2]; exact hfit))
        clear hfit
        go_wp2_with fail
        go_roundw
        case rel => exact ⟨k + 1, q, by have := HQ.out; omega, by have := HQ.out.1; exact congrArg (Value.int .i64) (by omega), rfl, hid (by have h := HR.out; rw [HQ.out.1] at h ⊢; exact h), HS3.out⟩
        case measure => have := HQ.out; simp [intOf]; omega
      · have b2 : decide ((nb.size : Int) + q ≤ lf) = false := decide_eq_false (by omega)
        have b2' : decide (nb.size + q ≤ lf) = false := decide_eq_false hfit
        have HR := hid (show RmI lf (k + 1) n from hI.out.skip (by rw [HQ.out.1, HQ.out.2.2]; omega))
        clear hfit
        go_wp2_with fail
        go_roundw
        case rel => exact ⟨k + 1, n, by have := HQ.out; omega, by have := HQ.out.1; exact congrArg (Value.int .i64) (by omega), rfl, HR, HS3.out⟩
        case measure => have := HQ.out; simp [intOf]; omega

/-- What Open comes to. -/
def RoTo (W : Base) (R : List Thing) (X : Nat) (d : DS) (e : Ending) (w' : World) : Prop :=
  (∃ c : Int, (d.dead = true ∧ c = 2 ∨ d.dead = false ∧ roomN d.sec.length = 0 ∧ c = 91 ∨ d.dead = false ∧ roomN d.sec.length ≠ 0 ∧ (∀ a, a < 2 → ∀ h s l, ¬ Fd d.sec a h s l) ∧ c = 90) ∧
    e = .returned (.tuple #[.pointer none, .string ⟨#[]⟩, .slice none 0 0, .int .i64 c]) ∧ St W w' R) ∨
  (d.dead = false ∧ roomN d.sec.length ≠ 0 ∧ ∃ h s l, Cnt d.sec h s l ∧ ∃ Y p c, e = .returned (.tuple #[.pointer (some ⟨Y, 0, none⟩), .string s, .slice p l.length c, .int .i64 0]) ∧
    St W w' (R ++ [TxT p c l, RlT Y X ⟨h, l.length, false⟩]))
set_option maxHeartbeats 1600000 in
theorem st_ropen (H : St W w R) (i : Nat) {X : Nat} {d : DS} (hi : R[i]? = some (XkT X d)) (hw : d.wf) :
    Calls Tryz.prog 31 #[.pointer (some ⟨X, 0, none⟩)] w (RoTo W R X d) := by
  obtain ⟨a0, c0, rv0, hx⟩ := H.xk i hi
  by_cases hd : d.dead = true
  · have d4 := cell_blk (i := 4) hx rfl
    rw [hd] at d4
    have HD := hid hd
    have HH := hid H
    clear hx hd H
    go_enter Tryz.func31, Tryz.ntmps31
    go_wp2_with fail
    refine bodyPost_ret (v := .tuple #[.pointer none, .string ⟨#[]⟩, .slice none 0 0, .int .i64 2]) (by simp [results, Tryz.results31, go_sem]) rfl ?_
    exact .inl ⟨2, .inl ⟨HD.out, rfl⟩, rfl, HH.out⟩
  have hd : d.dead = false := by simpa using hd
  have hn2 := hw.n2
  by_cases hf : roomN d.sec.length = 0
  · have HFT := hid (ref_fits w d.sec.length (by omega))
    rw [fits_zero.2 hf] at HFT
    have d4 := cell_blk (i := 4) hx rfl
    have d0 := cell_blk (i := 0) hx rfl
    rw [hd] at d4
    have HD := hid (And.intro hd hf)
    have HH := hid H
    obtain ⟨n, hn⟩ : ∃ n, d.sec.length = n := ⟨_, rfl⟩
    rw [hn] at d0 HFT
    clear hx hd hf hn2 hn H
    go_enter Tryz.func31, Tryz.ntmps31
    go_wp2_with fail
    refine HFT.out.mono ?_
    rintro e w1 ⟨rfl, rfl⟩
    go_wp2_with fail
    refine bodyPost_ret (v := .tuple #[.pointer none, .string ⟨#[]⟩, .slice none 0 0, .int .i64 91]) (by simp [results, Tryz.results31, go_sem]) rfl ?_
    exact .inl ⟨91, .inr (.inl ⟨HD.out.1, HD.out.2, rfl⟩), rfl, HH.out⟩
  obtain ⟨a, c, rv, hx, hcs⟩ := st_rcnt H i hi hw hf
  have HFT := hid (ref_fits w d.sec.length (by omega))
  have HCS := hid hcs
  have d4 := cell_blk (i := 4) hx rfl
  have d0 := cell_blk (i := 0) hx rfl
  rw [hd] at d4
  have HD := hid (And.intro hd hf)
  have hfz : ¬ roomN d.sec.length / 128 = 0 := fun h => hf (fits_zero.1 h)
  obtain ⟨q, hq⟩ : ∃ q, roomN d.sec.length / 128 = q := ⟨_, rfl⟩
  rw [hq] at HFT hfz
  have b1 : ((q : Int) == 0) = false := by rw [beq_eq_false_iff_ne]; omega
  obtain ⟨n, hn⟩ : ∃ n, d.sec.length = n := ⟨_, rfl⟩
  rw [hn] at d0 HFT HCS
  clear hx hd hf hn2 hn H hcs hfz hq
  go_enter Tryz.func31, Tryz.ntmps31
  go_wp2_with fail
  refine HFT.out.mono ?_
  rintro e w1 ⟨rfl, rfl⟩
  go_wp2_with fail
  with_reducible refine HCS.out.mono ?_
  rintro e w2 (⟨h, s, l, hc, p, c', rfl, hS⟩ | ⟨hno, rfl, hS⟩)
  · have HS := hid hS
    have HCN := hid hc
    clear hS hc
    unfold hV
    go_wp2_with fail
    refine bodyPost_ret (v := .tuple #[.pointer (some ⟨(w2.alloc (hdO h)).heap.size, 0, none⟩), .string s, .slice p l.length c', .int .i64 0]) (by simp [results, Tryz.results31, go_sem]) rfl ?_
    have h1 := (HS.out.alloc_ (hdO h)).alloc (rlO X ⟨h, l.length, false⟩)
    rw [List.append_assoc] at h1
    exact .inr ⟨HD.out.1, HD.out.2, h, s, l, HCN.out, _, p, c', rfl, h1⟩
  · have HS := hid hS
    have HNO := hid hno
    clear hS hno
    unfold hV
    go_wp2_with fail
    refine bodyPost_ret (v := .tuple #[.pointer none, .string ⟨#[]⟩, .slice none 0 0, .int .i64 90]) (by simp [results, Tryz.results31, go_sem]) rfl ?_
    exact .inl ⟨90, .inr (.inr ⟨HD.out.1, HD.out.2, HNO.out, rfl⟩), rfl, HS.out.alloc_ _⟩

/-- What Format comes to, on a disk that lives: the thing A d at the place i. -/
def FmTo (W : Base) (R : List Thing) (i : Nat) (A : DS → Thing) (d : DS) (e : Ending) (w' : World) : Prop :=
  (roomN d.sec.length = 0 ∧ e = .returned (.int .i64 91) ∧ St W w' R) ∨
  (roomN d.sec.length ≠ 0 ∧ (∃ h s l, Cnt d.sec h s l) ∧ e = .returned (.int .i64 95) ∧ St W w' R) ∨
  (roomN d.sec.length ≠ 0 ∧ (∀ a, a < 2 → ∀ h s l, ¬ Fd d.sec a h s l) ∧ e = .returned (.int .i64 (d.write 1 (secB fmtH)).1) ∧ St W w' (R.set i (A (d.write 1 (secB fmtH)).2)))
set_option maxHeartbeats 1600000 in
theorem st_rformat (H : St W w R) (i : Nat) {X : Nat} {d : DS} (hi : R[i]? = some (XkT X d)) (hw : d.wf) (hd : d.dead = false) (hraw : (d.raw.length + 1) * 24 ≤ 140737488355328) :
    Calls Tryz.prog 9 #[.pointer (some ⟨X, 0, none⟩)] w (FmTo W R i (XkT X) d) := by
  obtain ⟨a0, c0, rv0, hx⟩ := H.xk i hi
  have hn2 := hw.n2
  by_cases hf : roomN d.sec.length = 0
  · have HFT := hid (ref_fits w d.sec.length (by omega))
    rw [fits_zero.2 hf] at HFT
    have d4 := cell_blk (i := 4) hx rfl
    have d0 := cell_blk (i := 0) hx rfl
    rw [hd] at d4
    have HD := hid (And.intro hd hf)
    have HH := hid H
    obtain ⟨n, hn⟩ : ∃ n, d.sec.length = n := ⟨_, rfl⟩
    rw [hn] at d0 HFT
    clear hx hd hf hn2 hn H hraw
    go_enter Tryz.func9, Tryz.ntmps9
    go_wp2_with fail
    refine HFT.out.mono ?_
    rintro e w1 ⟨rfl, rfl⟩
    go_wp2_with fail
    go_ret
    exact .inl ⟨HD.out.2, rfl, HH.out⟩
  obtain ⟨a, c, rv, hx, hcs⟩ := st_rcnt H i hi hw hf
  have HFT := hid (ref_fits w d.sec.length (by omega))
  have HCS := hid hcs
  have d4 := cell_blk (i := 4) hx rfl
  have d0 := cell_blk (i := 0) hx rfl
  rw [hd] at d4
  have HD := hid (And.intro hd hf)
  have hfz : ¬ roomN d.sec.length / 128 = 0 := fun h => hf (fits_zero.1 h)
  obtain ⟨q, hq⟩ : ∃ q, roomN d.sec.length / 128 = q := ⟨_, rfl⟩
  rw [hq] at HFT hfz
  have b1 : ((q : Int) == 0) = false := by rw [beq_eq_false_iff_ne]; omega
  have HWR := hid (fun (w' : World) (h : St W w' R) => st_ref_write h i hi 1 (secB fmtH) hw hraw)
  obtain ⟨n, hn⟩ : ∃ n, d.sec.length = n := ⟨_, rfl⟩
  rw [hn] at d0 HFT HCS
  have HSC := hid (fun (w : World) => ref_sector w fmtH (by decide) (by decide) (by decide) (by decide))
  clear hx hd hf hn2 hn H hcs hfz hq hraw
  go_enter Tryz.func9, Tryz.ntmps9
  go_wp2_with fail
  refine HFT.out.mono ?_
  rintro e w1 ⟨rfl, rfl⟩
  go_wp2_with fail
  with_reducible refine HCS.out.mono ?_
  rintro e w2 (⟨h, s, l, hc, p, c', rfl, hS⟩ | ⟨hno, rfl, hS⟩)
  · have HS := hid (hS.alloc_ (hdO h))
    have HCN := hid hc
    clear hS hc
    unfold hV
    go_wp2_with fail
    go_ret
    exact .inr (.inl ⟨HD.out.2, ⟨h, s, l, HCN.out⟩, rfl, HS.out.drop⟩)
  · have HS := hid (hS.alloc_ (hdO ⟨0, 0, 0, 0⟩))
    have HNO := hid hno
    clear hS hno
    unfold hV
    go_wp2_with fail
    refine (HSC.out _).mono ?_
    rintro e w3 ⟨rfl, hF⟩
    have HW2 := hid (HWR.out w3 (HS.out.same hF))
    obtain ⟨z, hz⟩ : ∃ z, d.write 1 (secB fmtH) = z := ⟨_, rfl⟩
    rw [hz] at HW2
    have HZ := hid hz
    clear hF hz
    go_wp2_with fail
    refine HW2.out.mono ?_
    rintro e w4 ⟨rfl, hS4⟩
    have HS4 := hid hS4
    clear hS4
    go_wp2_with fail
    go_ret
    exact .inr (.inr ⟨HD.out.2, HNO.out, by rw [HZ.out]; rfl, by rw [HZ.out]; exact HS4.out⟩)
theorem st_wformatA (H : St W w R) (j : Nat) {D : Nat} {d : DS} (hj : R[j]? = some (DkT D d)) (hw : d.wf) (hd : d.dead = false) (hraw : (d.raw.length + 1) * 24 ≤ 140737488355328) :
    Calls Tryz.prog 8 #[.pointer (some ⟨D, 0, none⟩)] w (FmTo W R j (DkT D) d) := by
  by_cases hf : roomN d.sec.length = 0
  · have hdd : Calls Tryz.prog 22 #[.pointer (some ⟨D, 0, none⟩)] w fun e w' => e = .returned (.bool false) ∧ w = w' := by
      obtain ⟨F, hF⟩ := H.dk j hj
      rw [← hd]
      exact disk_dead w F D d hF
    have hrm : Calls Tryz.prog 23 #[.pointer (some ⟨D, 0, none⟩)] w fun e w'' => e = .returned (.int .i64 (0 : Nat)) ∧ w = w'' := by
      obtain ⟨F, hF⟩ := H.dk j hj
      have h := wal_room w F D d hF hw
      rw [hf] at h
      exact h
    have HD := hid hdd
    have HM := hid hrm
    have HH := hid H
    have HF := hid hf
    clear H hdd hrm hd hw hraw hf
    go_enter Tryz.func8, Tryz.ntmps8
    go_wp2_with fail
    refine HD.out.mono ?_
    rintro e w1 ⟨rfl, rfl⟩
    go_wp2_with fail
    refine HM.out.mono ?_
    rintro e w1 ⟨rfl, rfl⟩
    go_wp2_with fail
    go_ret
    exact .inl ⟨HF.out, rfl, HH.out⟩
  · refine (st_wformat H j hj hw hd hf hraw).mono ?_
    rintro e w' (⟨h1, h2, h3⟩ | ⟨h1, h2, h3⟩)
    · exact .inr (.inl ⟨hf, h1, h2, h3⟩)
    · exact .inr (.inr ⟨hf, h1, h2, h3⟩)
end
end Go.Proofs.YthghnlgojmedgaaGreat

/-
  The document's log: lay.
-/
namespace Go.Proofs.YthghnlgojmedgaaGreat
open Go.RowKit
set_option linter.unusedVariables false
set_option linter.unusedSimpArgs false

/-- How many pages are written ahead of the page i of the half. -/
def kOf (A N i : Nat) : Nat := if i ≤ A then 0 else min (i - A) N
theorem kOf_skip {A N i : Nat} (h : ¬ (A ≤ i ∧ i < A + N)) : kOf A N (i + 1) = kOf A N i := by
  unfold kOf
  by_cases h1 : i + 1 ≤ A
  · rw [if_pos h1, if_pos (by omega)]
  · rw [if_neg h1]
    by_cases h2 : i ≤ A
    · rw [if_pos h2]; omega
    · rw [if_neg h2]; omega
theorem kOf_step {A N i : Nat} (h : A ≤ i ∧ i < A + N) : kOf A N i = i - A ∧ kOf A N (i + 1) = i - A + 1 := by
  unfold kOf
  refine ⟨?_, by rw [if_neg (by omega)]; omega⟩
  by_cases h2 : i ≤ A
  · rw [if_pos h2]; omega
  · rw [if_neg h2]; omega
theorem kOf_end {A N m : Nat} (h : A + N ≤ m ∨ N = 0) : kOf A N m = N := by
  unfold kOf
  by_cases h2 : m ≤ A
  · rw [if_pos h2]; omega
  · rw [if_neg h2]; omega
theorem in_pages {at_ len i : Nat} : (at_ / 128 ≤ i ∧ i < at_ / 128 + (if len = 0 then 0 else (at_ % 128 + len + 127) / 128)) ↔ (¬ at_ + len ≤ 128 * i ∧ ¬ 128 * (i + 1) ≤ at_ ∧ ¬ len = 0) := by
  by_cases h : len = 0
  · rw [if_pos h]; omega
  · rw [if_neg h]; omega
theorem half_page {ss : List ByteArray} {half m i : Nat} {b : ByteArray} (hm : ss.length / 2 - 1 = m) (hb : bl b = hTake ss half (m * 128)) (hi : i < m) (hs : (sAt ss (2 + half * m + i)).size = 128) (f : Nat) (hf : f ≤ 128) :
    bl (b.extract (128 * i) (128 * i + f)) = (bl (sAt ss (2 + half * m + i))).take f := by
  have h1 := hTake_sector ss half i (by rw [hm]; exact hs)
  rw [hm] at h1
  rw [extract_bl, hb, hTake_take _ _ (by omega), ← hTake_take ss half (show 128 * i + f ≤ 128 * (i + 1) by omega), h1]
  rw [List.take_append, hTake_len, show 128 * i + f - 128 * i = f by omega, List.take_of_length_le (by rw [hTake_len]; omega), List.drop_append_of_le_length (by rw [hTake_len]; exact Nat.le_refl _), List.drop_of_length_le (by rw [hTake_len]; exact Nat.le_refl _), List.nil_append]
/-- What the document writes into a page is what the program does. -/
theorem page_eq {ss : List ByteArray} {half at_ m i : Nat} {s b : ByteArray} (P : Pl ss half at_ (bl s)) (hm : ss.length / 2 - 1 = m) (hb : bl b = hTake ss half (m * 128)) (hi : at_ / 128 ≤ i ∧ i < at_ / 128 + pN at_ (bl s)) (hi2 : i < m) (o u : ByteArray)
    (ho : o = b.extract (128 * i) (max (128 * i) at_)) (hu : u = s.extract (128 * i - at_) (min s.size (128 * (i + 1) - at_))) (q : Nat) (hq : q = 128 - (o.size + u.size)) :
    o ++ u ++ zeroS q = pC ss half at_ (bl s) (i - at_ / 128) ∧ o.size + u.size ≤ 128 := by
  have hk : i - at_ / 128 < pN at_ (bl s) := by omega
  have hi3 := hi
  unfold pN at hi3
  rw [bl_len] at hi3
  have hin := in_pages.1 hi3
  have hpg : at_ / 128 + (i - at_ / 128) = i := by omega
  have hss : (sAt ss (2 + half * m + i)).size = 128 := by
    refine P.sz _ ?_
    have := P.fine hk
    rw [hm, Nat.add_assoc, hpg] at this
    exact this
  have hmx : max (128 * i) at_ = 128 * i + fK at_ (i - at_ / 128) := by unfold fK; split <;> omega
  have hfl : fK at_ (i - at_ / 128) < 128 := by unfold fK; split <;> omega
  have hc : 128 * i - at_ = cK at_ s.size (i - at_ / 128) := by unfold cK; split <;> omega
  have hob : bl o = (bl (sAt ss (2 + half * m + i))).take (fK at_ (i - at_ / 128)) := by
    rw [ho, hmx]; exact half_page hm hb hi2 hss _ (by omega)
  have hub : bl u = ((bl s).drop (cK at_ s.size (i - at_ / 128))).take (128 - fK at_ (i - at_ / 128)) := by
    rw [hu, extract_bl, ← hc]
    have e : min s.size (128 * (i + 1) - at_) - (128 * i - at_) = min (s.size - (128 * i - at_)) (128 - fK at_ (i - at_ / 128)) := by unfold fK; split <;> omega
    rw [List.drop_take, e]
    by_cases hle : s.size - (128 * i - at_) ≤ 128 - fK at_ (i - at_ / 128)
    · rw [Nat.min_eq_left hle, List.take_of_length_le (by rw [List.length_drop, bl_len]; exact Nat.le_refl _), List.take_of_length_le (by rw [List.length_drop, bl_len]; exact hle)]
    · rw [Nat.min_eq_right (by omega)]
  have hos : o.size = fK at_ (i - at_ / 128) := by rw [← bl_len, hob, List.length_take, bl_len, hss]; omega
  have hus : u.size ≤ 128 - fK at_ (i - at_ / 128) := by rw [← bl_len, hub, List.length_take]; omega
  refine ⟨?_, by omega⟩
  have hpc : pC ss half at_ (bl s) (i - at_ / 128) = pad (bl o ++ bl u) := by
    rw [pC_eq P hk, hob, hub, bl_len, hm]
    rw [show 2 + half * m + at_ / 128 + (i - at_ / 128) = 2 + half * m + i by omega]
  have e1 : bl (zeroS q) = List.replicate q 0 := by rw [zeroS, bl_mk, zeroL]
  have e2 : bl (pad (bl o ++ bl u)) = (bl o ++ bl u) ++ List.replicate (128 - (bl o ++ bl u).length) 0 := by rw [pad, bl_mk]
  have e3 : (bl o ++ bl u).length = o.size + u.size := by rw [List.length_append, bl_len, bl_len]
  apply bl_inj
  rw [hpc, e2, e3, bl_app, bl_app, e1, hq]

section
variable {W : Base} {w : World} {R : List Thing}
/-- What lay comes to. -/
def LyTo (W : Base) (R : List Thing) (i j Y X : Nat) (x : WS) (d : DS) (at_ : Nat) (s : ByteArray) (h : WH) (n : Nat) (e : Ending) (w' : World) : Prop :=
  (runP d (callW d at_ s h)).1 = 0 ∧ e = .returned (.int .i64 0) ∧ St W w' ((R.set i (RlT Y X { x with h := h, n := n })).set j (XkT X (runP d (callW d at_ s h)).2)) ∨
  (runP d (callW d at_ s h)).1 = 2 ∧ e = .returned (.int .i64 2) ∧ St W w' ((R.set i (RlT Y X { x with dead := true })).set j (XkT X (runP d (callW d at_ s h)).2))

theorem St.rlSet (H : St W w R) (i : Nat) {Y X : Nat} {x : WS} (hi : R[i]? = some (RlT Y X x)) (h : WH) (n : Nat) :
    St W (((((w.setCell ⟨Y, 2, none⟩ (.int .i64 (h.number : Nat))).setCell ⟨Y, 3, none⟩ (.int .i64 (h.half : Nat))).setCell ⟨Y, 4, none⟩ (.int .i64 (h.snap : Nat))).setCell ⟨Y, 5, none⟩ (.int .i64 (h.log : Nat))).setCell ⟨Y, 6, none⟩ (.int .i64 (n : Nat))) (R.set i (RlT Y X { x with h := h, n := n })) := by
  have hil := lt_of_get hi
  have h1 := H.setBlk i hi 2 (.int .i64 (h.number : Nat))
  simp only [List.setIfInBounds_toArray, List.set_cons_zero, List.set_cons_succ] at h1
  have h2 := h1.setBlk i (List.getElem?_set_self hil) 3 (.int .i64 (h.half : Nat))
  simp only [List.set_set, List.setIfInBounds_toArray, List.set_cons_zero, List.set_cons_succ] at h2
  have h3 := h2.setBlk i (List.getElem?_set_self hil) 4 (.int .i64 (h.snap : Nat))
  simp only [List.set_set, List.setIfInBounds_toArray, List.set_cons_zero, List.set_cons_succ] at h3
  have h4 := h3.setBlk i (List.getElem?_set_self hil) 5 (.int .i64 (h.log : Nat))
  simp only [List.set_set, List.setIfInBounds_toArray, List.set_cons_zero, List.set_cons_succ] at h4
  have h5 := h4.setBlk i (List.getElem?_set_self hil) 6 (.int .i64 (n : Nat))
  simp only [List.set_set, List.setIfInBounds_toArray, List.set_cons_zero, List.set_cons_succ] at h5
  exact h5
set_option maxHeartbeats 1600000 in
set_option maxRecDepth 100000 in
theorem st_rlay (H : St W w R) (i j : Nat) {Y X : Nat} {x : WS} {d : DS} (hi : R[i]? = some (RlT Y X x)) (hj : R[j]? = some (XkT X d)) (hij : i ≠ j) (hw : d.wf) (hd : d.dead = false) (hxd : x.dead = false) (hf : roomN d.sec.length ≠ 0) (at_ : Nat) (s : ByteArray) (h : WH)
    (P : Pl d.sec h.half at_ (bl s)) (hraw : (d.raw.length + 2000) * 24 ≤ 140737488355328) (hn1 : h.number ≤ 9223372036854775807) (hn2 : h.snap ≤ 9223372036854775807) (hn3 : h.log ≤ 9223372036854775807) (s' : ByteArray) (l' : List ByteArray)
    (hc : (runP d (callW d at_ s h)).1 = 0 → Cnt (runP d (callW d at_ s h)).2.sec h s' l' ∧ (runP d (callW d at_ s h)).2.wf ∧ (runP d (callW d at_ s h)).2.dead = false ∧ (runP d (callW d at_ s h)).2.sec.length = d.sec.length) :
    Calls Tryz.prog 73 #[.pointer (some ⟨Y, 0, none⟩), .int .i64 h.half, .int .i64 at_, .string s, hV h] w (LyTo W R i j Y X x d at_ s h l'.length) := by
  have hil := lt_of_get hi
  have hjl := lt_of_get hj
  obtain ⟨k1, k2, k3, k4⟩ := roomN_ok hf
  obtain ⟨m, hm⟩ : ∃ m, d.sec.length / 2 - 1 = m := ⟨_, rfl⟩
  rw [hm] at k4
  have hroom := P.room
  rw [hm, bl_len] at hroom
  obtain ⟨n, f, sn, lg⟩ := h
  dsimp only at P hn1 hn2 hn3 hc ⊢
  have hf1 := P.half1
  unfold LyTo
  obtain ⟨ws, hws⟩ : ∃ ws, callW d at_ s ⟨n, f, sn, lg⟩ = ws := ⟨_, rfl⟩
  rw [hws] at hc ⊢
  obtain ⟨p0, hp0⟩ : ∃ p0, 2 + f * m + at_ / 128 = p0 := ⟨_, rfl⟩
  have HRUN0 := hid (RunI.zero hw hd ws p0)
  have HS0 := H.alloc (hdO ⟨n, f, sn, lg⟩)
  have hjT : ∀ d', (R.set j (XkT X d') ++ [BlkT w.heap.size (hdO ⟨n, f, sn, lg⟩)])[j]? = some (XkT X d') := fun d' => by rw [List.getElem?_append_left (by rw [List.length_set]; exact hjl), List.getElem?_set_self hjl]
  have hiT : ∀ d', (R.set j (XkT X d') ++ [BlkT w.heap.size (hdO ⟨n, f, sn, lg⟩)])[i]? = some (RlT Y X x) := fun d' => by rw [List.getElem?_append_left (by rw [List.length_set]; exact hil), List.getElem?_set_ne (Ne.symm hij)]; exact hi
  have HS1 : St W (w.alloc (hdO ⟨n, f, sn, lg⟩)) (R.set j (XkT X d) ++ [BlkT w.heap.size (hdO ⟨n, f, sn, lg⟩)]) := by rw [things_set_self hj]; exact HS0
  obtain ⟨a, c, rv, hpin⟩ := HS1.pin j (hjT d)
  obtain ⟨hx, hin⟩ := hpin.xkp j (List.getElem?_set_self (by rw [List.length_append, List.length_set]; omega))
  have HHF := hid (ref_half _ a c d.sec hin hf hw.sz f hf1)
  have d0 := cell_blk (i := 0) hx rfl
  have y0 := cell_blk (i := 0) (HS1.blk i (hiT d)) rfl
  rw [k4] at HHF
  obtain ⟨b, hb⟩ : ∃ b : ByteArray, ⟨(hTake d.sec f (m * 128)).toArray⟩ = b := ⟨_, rfl⟩
  have hbl : bl b = hTake d.sec f (m * 128) := by rw [← hb, bl_mk]
  have hbs : b.size = m * 128 := by rw [← bl_len, hbl, hTake_len]
  rw [hb] at HHF
  obtain ⟨nn, hnn⟩ : ∃ nn, d.sec.length = nn := ⟨_, rfl⟩
  rw [hnn] at HHF d0
  have e0 : IntKind.i64.wrap ((nn : Int) / 2) = (nn : Int) / 2 := IntWalk.i64_in _ (by omega)
  have e1 : IntKind.i64.wrap ((nn : Int) / 2 - 1) = (m : Int) := by rw [IntWalk.i64_in _ (by omega)]; omega
  have HX := hid (And.intro hi (And.intro hj (And.intro hij (And.intro hil hjl))))
  have HT := hid (And.intro hjT hiT)
  have HP := hid P
  have HC := hid hc
  have HB := hid (And.intro hbl hbs)
  have HN := hid (And.intro hn1 (And.intro hn2 (And.intro hn3 (And.intro hf1 (And.intro hroom hraw)))))
  have HM := hid (And.intro hm (And.intro hnn (And.intro hp0 (And.intro hws (And.intro k1 k3)))))
  have HD := hid (And.intro hw (And.intro hd (And.intro hxd hf)))
  have HSS := hid HS1
  clear H HS0 HS1 hpin hx hin hjT hiT P hc hbl hbs hn1 hn2 hn3 hf1 hroom hraw hm hnn hp0 hws k1 k2 k3 k4 hi hj hij hil hjl hw hd hxd hf hb
  unfold hV
  go_enter Tryz.func73, Tryz.ntmps73
  go_wp2_with fail
  refine HHF.out.mono ?_
  rintro e w1 ⟨rfl, hF1⟩
  have HS2 := hid (HSS.out.same hF1)
  obtain ⟨hb9, hbe⟩ : ∃ q, w.heap.size = q := ⟨_, rfl⟩
  rw [hbe] at HS2 HT
  try rw [hbe]
  clear hF1 HSS hbe d0 y0 HHF e0 e1
  go_wp2_with fail
  go_loopw [13] (fun iv wr => ∃ (q : Nat) (dk : DS), q ≤ m ∧ iv = .int .i64 q ∧ Hid (RunI d dk ws p0 (kOf (at_ / 128) (pN at_ (bl s)) q)) ∧ St W wr (R.set j (XkT X dk) ++ [BlkT hb9 (hdO ⟨n, f, sn, lg⟩)])) (fun iv _ => m - (intOf iv).toNat)
  case atStart => exact ⟨0, d, Nat.zero_le _, rfl, hid (by have h := HRUN0.out; rw [show kOf (at_ / 128) (pN at_ (bl s)) 0 = 0 by unfold kOf; rw [if_pos (Nat.zero_le _)]]; exact h), HS2.out⟩
  case round =>
    clear HS2 HRUN0
    obtain ⟨q, dk, hq, rfl, hI, H⟩ := hrel
    by_cases hlt : q < m
    · obtain ⟨fr, hfr⟩ : ∃ fr, 128 * q = fr := ⟨_, rfl⟩
      obtain ⟨tt, hto⟩ : ∃ tt, 128 * (q + 1) = tt := ⟨_, rfl⟩
      have e1 : IntKind.i64.wrap (128 * (q : Int)) = (fr : Int) := by rw [IntWalk.i64_in _ (by have := HM.out.2.2.2.2.2; have := HM.out.1; omega)]; omega
      have e2 : IntKind.i64.wrap ((q : Int) + 1) = (q : Int) + 1 := IntWalk.i64_in _ (by have := HM.out.2.2.2.2.2; have := HM.out.1; omega)
      have e3 : IntKind.i64.wrap (128 * ((q : Int) + 1)) = (tt : Int) := by rw [IntWalk.i64_in _ (by have := HM.out.2.2.2.2.2; have := HM.out.1; omega)]; omega
      have e4 : IntKind.i64.wrap ((at_ : Int) + s.size) = (at_ : Int) + s.size := IntWalk.i64_in _ (by have := HN.out.2.2.2.2.1; have := HM.out.2.2.2.2.2; have := HM.out.1; omega)
      have hqI : (q : Int) < m := by omega
      have HLT := hid (And.intro hlt (And.intro hfr hto))
      have HH := hid H
      have hpg : (at_ / 128 ≤ q ∧ q < at_ / 128 + pN at_ (bl s)) ↔ (¬ at_ + s.size ≤ fr ∧ ¬ tt ≤ at_ ∧ ¬ s.size = 0) := by
        rw [← hfr, ← hto, ← in_pages]
        unfold pN
        rw [bl_len]
      have HPG := hid hpg
      clear H hlt hq hfr hto hpg
      by_cases c1 : at_ + s.size ≤ fr
      · have b1 : decide ((at_ : Int) + s.size ≤ (fr : Int)) = true := decide_eq_true (by omega)
        have b1' : decide (at_ + s.size ≤ fr) = true := decide_eq_true c1
        have HEND := hid (show RunI d dk ws p0 (kOf (at_ / 128) (pN at_ (bl s)) (q + 1)) by rw [kOf_skip (fun h => (HPG.out.1 h).1 c1)]; exact hI.out)
        clear c1
        go_wp2_with fail
        go_roundw
        case rel => exact ⟨q + 1, dk, HLT.out.1, by go_num, HEND, HH.out⟩
        case measure => have := HLT.out.1; simp [intOf]; omega
      have b1 : decide ((at_ : Int) + s.size ≤ (fr : Int)) = false := decide_eq_false (by omega)
      have b1' : decide (at_ + s.size ≤ fr) = false := decide_eq_false c1
      by_cases c2 : tt ≤ at_
      · have b2 : decide ((tt : Int) ≤ (at_ : Int)) = true := decide_eq_true (by omega)
        have b2' : decide (tt ≤ at_) = true := decide_eq_true c2
        have HEND := hid (show RunI d dk ws p0 (kOf (at_ / 128) (pN at_ (bl s)) (q + 1)) by rw [kOf_skip (fun h => (HPG.out.1 h).2.1 c2)]; exact hI.out)
        clear c1 c2
        go_wp2_with fail
        go_roundw
        case rel => exact ⟨q + 1, dk, HLT.out.1, by go_num, HEND, HH.out⟩
        case measure => have := HLT.out.1; simp [intOf]; omega
      have b2 : decide ((tt : Int) ≤ (at_ : Int)) = false := decide_eq_false (by omega)
      have b2' : decide (tt ≤ at_) = false := decide_eq_false c2
      by_cases c3 : s.size = 0
      · have b3 : s.toList.isEmpty = true := by
          have h0 : s.data.toList = [] := List.length_eq_zero_iff.1 c3
          rw [ByteArray.toList_eq, h0]; rfl
        have HC3 := hid c3
        have HEND := hid (show RunI d dk ws p0 (kOf (at_ / 128) (pN at_ (bl s)) (q + 1)) by rw [kOf_skip (fun h => (HPG.out.1 h).2.2 HC3.out)]; exact hI.out)
        clear c1 c2 c3
        go_wp2_with fail
        go_roundw
        case rel => exact ⟨q + 1, dk, HLT.out.1, by go_num, HEND, HH.out⟩
        case measure => have := HLT.out.1; simp [intOf]; omega
      have b3 : s.toList.isEmpty = false := by
        cases hb : s.toList with
        | nil =>
          rw [ByteArray.toList_eq] at hb
          exact absurd (show s.data.size = 0 from by rw [← Array.length_toList, hb]; rfl) c3
        | cons _ _ => rfl
      have hin := HPG.out.2 ⟨c1, c2, c3⟩
      obtain ⟨mx, hmx⟩ : ∃ mx, max fr at_ = mx := ⟨_, rfl⟩
      obtain ⟨cc, hcc⟩ : ∃ cc, fr - at_ = cc := ⟨_, rfl⟩
      obtain ⟨ee, hee⟩ : ∃ ee, min s.size (tt - at_) = ee := ⟨_, rfl⟩
      have hpe := page_eq (s := s) (b := b) HP.out HM.out.1 HB.out.1 hin HLT.out.1 (b.extract fr mx) (s.extract cc ee) (by rw [← hmx, HLT.out.2.1]) (by rw [← hcc, ← hee, HLT.out.2.1, HLT.out.2.2]) _ rfl
      obtain ⟨o, ho⟩ : ∃ o, b.extract fr mx = o := ⟨_, rfl⟩
      obtain ⟨u, hu⟩ : ∃ u, s.extract cc ee = u := ⟨_, rfl⟩
      rw [ho, hu] at hpe
      have hfm : fr + 128 ≤ b.size ∧ tt = fr + 128 := by have := HB.out.2; have := HLT.out; omega
      have f1 : max (fr : Int) (at_ : Int) = (mx : Int) := by omega
      have f2 : IntKind.i64.wrap ((fr : Int) - at_) = (fr : Int) - at_ := IntWalk.i64_in _ (by have := HN.out.2.2.2.2.1; have := HM.out.2.2.2.2.2; have := HM.out.1; have := HLT.out; omega)
      have f3 : max (0 : Int) ((fr : Int) - at_) = (cc : Int) := by omega
      have f4 : IntKind.i64.wrap ((tt : Int) - at_) = (tt : Int) - at_ := IntWalk.i64_in _ (by have := HN.out.2.2.2.2.1; have := HM.out.2.2.2.2.2; have := HM.out.1; have := HLT.out; omega)
      have f5 : min (s.size : Int) ((tt : Int) - at_) = (ee : Int) := by omega
      have g1 : (fr : Int) ≤ (mx : Int) := by omega
      have g2 : (mx : Int) ≤ (b.size : Int) := by omega
      have g3 : (cc : Int) ≤ (ee : Int) := by omega
      have g4 : (ee : Int) ≤ (s.size : Int) := by omega
      have a1 : ¬ 9223372036854775807 < o.size + u.size := by omega
      have HPE := hid (And.intro hpe hin)
      clear c1 c2 c3 hmx hcc hee hpe hin hfm
      obtain ⟨one, hone⟩ : ∃ t, o ++ u = t := ⟨_, rfl⟩
      have HONE := hid hone
      clear hone
      go_upto_region 8 with (fail)
      go_cut [16] from 42 to 107 (fun s16 wx => s16 = .string one ∧ ∃ nq, wx = wr.drewN nq)
      case first =>
        go_quiet (fail)
        go_wp2_with fail
        go_meet
        exact ⟨by rw [← HONE.out, ← ho, ← hu], _, rfl⟩
      obtain ⟨rfl, nq, rfl⟩ := hcut
      have HD2 := hid (HH.out.drewN nq)
      generalize wr.drewN nq = w2 at HD2 ⊢
      have hone := HONE.out
      obtain ⟨z, hz⟩ : ∃ z, 128 - (o.size + u.size) = z := ⟨_, rfl⟩
      have hos : one.size = o.size + u.size := by rw [← hone, ByteArray.size_append]
      obtain ⟨k, hk⟩ : ∃ k, q - at_ / 128 = k := ⟨_, rfl⟩
      obtain ⟨pc, hpc⟩ : ∃ pc, pC d.sec f at_ (bl s) k = pc := ⟨_, rfl⟩
      obtain ⟨pg, hpg⟩ : ∃ pg, p0 + k = pg := ⟨_, rfl⟩
      have hpe1 := HPE.out.1
      have hin := HPE.out.2
      rw [hz, hone, hk, hpc] at hpe1
      have hks := kOf_step hin
      rw [hk] at hks
      have hkN : k < pN at_ (bl s) := by omega
      have hpcs : pc.size = 128 := by rw [← hpc]; exact pC_size _ _ _ _ _
      have hfine := HP.out.fine hkN
      rw [HM.out.1, HM.out.2.2.1, hpg] at hfine
      have hRI := hI.out
      rw [hks.1] at hRI
      have hstep := hRI.step (c := pc) (k := k) (by
        rw [← HM.out.2.2.2.1]
        unfold callW
        rw [List.getElem?_append_left (by rw [plan_len]; exact hkN), plan_get _ _ _ _ hkN, hpc, HM.out.1, HM.out.2.2.1]) (by rw [hpg]; exact hfine) hpcs
      rw [hpg] at hstep
      have g5 : IntKind.i64.wrap (128 - (one.size : Int)) = (z : Int) := by rw [IntWalk.i64_in _ (by omega)]; omega
      have g6 : ¬ 9223372036854775807 < one.size + (zeroS z).size := by rw [zeroS_size]; omega
      have hzle : z ≤ 128 := by omega
      have hfl : (f : Int) * m ≤ 512 ∧ 0 ≤ (f : Int) * m := by
        have h1 := HN.out.2.2.2.1; have h2 := HM.out.2.2.2.2.2; have h3 := HM.out.1
        rcases (show f = 0 ∨ f = 1 by omega) with rfl | rfl <;> omega
      have g7 : IntKind.i64.wrap ((f : Int) * m) = (f : Int) * m := IntWalk.i64_in _ (by omega)
      have g8 : IntKind.i64.wrap (2 + (f : Int) * m) = 2 + (f : Int) * m := IntWalk.i64_in _ (by omega)
      have g9 : IntKind.i64.wrap (2 + (f : Int) * m + q) = (pg : Int) := by
        have h2 := HM.out.2.2.2.2.2; have h3 := HM.out.1; have h4 := HLT.out.1; have h5 := HM.out.2.2.1
        rw [IntWalk.i64_in _ (by omega), ← hpg, ← h5]
        push_cast
        omega
      have hraw2 : (dk.raw.length + 1) * 24 ≤ 140737488355328 := by
        have h1 := hRI.raw; have h2 := HN.out.2.2.2.2.2; have h3 := HM.out.2.2.2.2.2
        omega
      have hwr := fun (w' : World) (h : St W w' (R.set j (XkT X dk) ++ [BlkT hb9 (hdO ⟨n, f, sn, lg⟩)])) => st_ref_write h j (HT.out.1 dk) (pg : Nat) pc hRI.wf hraw2
      have hseteq : ∀ d' : DS, (R.set j (XkT X dk) ++ [BlkT hb9 (hdO ⟨n, f, sn, lg⟩)]).set j (XkT X d') = R.set j (XkT X d') ++ [BlkT hb9 (hdO ⟨n, f, sn, lg⟩)] := fun d' => by
        rw [List.set_append_left _ _ (by rw [List.length_set]; exact HX.out.2.2.2.2), List.set_set]
      simp only [hseteq] at hwr
      obtain ⟨zr, hzr⟩ : ∃ zr, (dk.write ((pg : Nat) : Int) pc).1 = zr := ⟨_, rfl⟩
      obtain ⟨d', hd'⟩ : ∃ d', (dk.write ((pg : Nat) : Int) pc).2 = d' := ⟨_, rfl⟩
      rw [hzr, hd'] at hwr hstep
      rw [← hks.2] at hstep
      have HWR := hid hwr
      have HST := hid hstep
      have HPC := hid hpe1
      have HZL := hid hzle
      clear hone hz hos hk hpc hpg hpe1 hin hks hkN hpcs hfine hRI hstep hfl hraw2 hwr hseteq hzr hd' ho hu hzle f1 f2 f3 f4 f5 g1 g2 g3 g4 a1 b1 b1' b2 b2' b3
      go_wp2_with fail
      obtain ⟨wm, g, hmk, hFm, hcv⟩ := mkz w2 _ z rfl (by have := HZL.out; omega)
      rw [hmk]
      simp only [Result.andThen]
      rw [Oper.upon_value]
      have HS3 := hid (HD2.out.same hFm)
      have y0 := cell_blk (i := 0) (HS3.out.blk i (HT.out.2 dk)) rfl
      have hpq := HPC.out.1
      clear hmk hFm HD2
      go_wp2_with fail
      refine (HWR.out _ HS3.out).mono ?_
      rintro e w4 ⟨rfl, H4⟩
      have HDD := hid (st_rdead H4 i (HT.out.2 d') zr)
      clear H4 hcv HWR y0 hpq g5 g6
      go_wp2_with fail
      refine HDD.out.mono ?_
      rintro e w5 ⟨rfl, H5⟩
      rcases HST.out with ⟨rfl, hRI⟩ | ⟨rfl, hrun⟩
      · have hx : ({ x with dead := x.dead || ((0 : Int) != 0) } : WS) = x := by cases x; simp
        rw [hx, things_set_self (HT.out.2 d')] at H5
        have HEND := hid (And.intro (hid hRI) H5)
        have e2' := e2
        clear H5 hRI hx HST HDD
        go_wp2_with fail
        go_roundw
        case rel => exact ⟨q + 1, d', HLT.out.1, by go_num, HEND.out.1, HEND.out.2⟩
        case measure => have := HLT.out.1; simp [intOf]; omega
      · have hx : ({ x with dead := x.dead || ((2 : Int) != 0) } : WS) = { x with dead := true } := by cases x; simp
        rw [hx, List.set_append_left _ _ (by rw [List.length_set]; exact HX.out.2.2.2.1)] at H5
        have HEND := hid H5.drop
        have HRN := hid hrun
        clear H5 hrun hx HST HDD
        go_wp2_with fail
        go_ret
        refine .inr ⟨by rw [HRN.out], rfl, ?_⟩
        rw [HRN.out, List.set_comm _ _ HX.out.2.2.1]
        exact HEND.out
    · obtain rfl : q = m := by omega
      have hkp : kOf (at_ / 128) (pN at_ (bl s)) q = pN at_ (bl s) := kOf_end (by have h := HP.out.pages; rw [HM.out.1] at h; exact h)
      have hRI := hI.out
      rw [hkp] at hRI
      have hdr : ws.drop (pN at_ (bl s)) = [(n % 2, secB ⟨n, f, sn, lg⟩)] := by
        rw [← HM.out.2.2.2.1]
        unfold callW
        rw [List.drop_left' (by rw [plan_len])]
      have hrun := hRI.run
      rw [hdr, runP] at hrun
      have hpl : n % 2 < dk.sec.length := by have := HM.out; rw [hRI.len]; omega
      have hsz := secB_size ⟨n, f, sn, lg⟩
      have hwd := write_dead (d := dk) (p := n % 2) (c := secB ⟨n, f, sn, lg⟩) hRI.alive hpl hsz
      have hm2 : ((n % 2 : Nat) : Int) = (n : Int) % 2 := by omega
      simp only [hm2] at hrun hwd
      obtain ⟨sb, hsb⟩ : ∃ sb, secB ⟨n, f, sn, lg⟩ = sb := ⟨_, rfl⟩
      rw [hsb] at hrun hwd hsz
      have hraw2 : (dk.raw.length + 1) * 24 ≤ 140737488355328 := by
        have h1 := hRI.raw; have h2 := HN.out.2.2.2.2.2; have h3 := HM.out.2.2.2.2.2
        have h4 : pN at_ (bl s) ≤ 1026 := by
          rcases HP.out.pages with h | h
          · have := HP.out.fit; omega
          · omega
        omega
      have hwr := fun (w' : World) (h : St W w' (R.set j (XkT X dk) ++ [BlkT hb9 (hdO ⟨n, f, sn, lg⟩)])) => st_ref_write h j (HT.out.1 dk) ((n : Int) % 2) sb hRI.wf hraw2
      have hseteq : ∀ d' : DS, (R.set j (XkT X dk) ++ [BlkT hb9 (hdO ⟨n, f, sn, lg⟩)]).set j (XkT X d') = R.set j (XkT X d') ++ [BlkT hb9 (hdO ⟨n, f, sn, lg⟩)] := fun d' => by
        rw [List.set_append_left _ _ (by rw [List.length_set]; exact HX.out.2.2.2.2), List.set_set]
      simp only [hseteq] at hwr
      obtain ⟨zr, hzr⟩ : ∃ zr, (dk.write ((n : Int) % 2) sb).1 = zr := ⟨_, rfl⟩
      obtain ⟨d', hd'⟩ : ∃ d', (dk.write ((n : Int) % 2) sb).2 = d' := ⟨_, rfl⟩
      rw [hzr, hd'] at hwr hrun hwd
      have hres : zr = 0 ∧ runP d ws = (0, d') ∨ zr = 2 ∧ runP d ws = (2, d') := by
        rcases hwd with ⟨h, _⟩ | ⟨h, _⟩
        · left; refine ⟨h, ?_⟩; rw [hrun, if_pos h]; rfl
        · right; refine ⟨h, ?_⟩; rw [hrun, if_neg (by rw [h]; decide)]
      have HSF := hid (fun (wx : World) (dd : DS) (h : St W wx (R.set j (XkT X dd) ++ [BlkT hb9 (hdO ⟨n, f, sn, lg⟩)])) => (show (wx.cell? ⟨Y, 0, none⟩ = some (.pointer (some ⟨X, 0, none⟩)) ∧ wx.cell? ⟨hb9, 0, none⟩ = some (.int .i64 n) ∧ wx.cell? ⟨hb9, 1, none⟩ = some (.int .i64 f) ∧ wx.cell? ⟨hb9, 2, none⟩ = some (.int .i64 sn) ∧ wx.cell? ⟨hb9, 3, none⟩ = some (.int .i64 lg)) from by
        have h9 := h.blk ((R.set j (XkT X dd)).length + 0) (b := hb9) (o := hdO ⟨n, f, sn, lg⟩) (by rw [get_behind]; rfl)
        have hY := h.blk i (HT.out.2 dd)
        exact ⟨cell_blk hY rfl, cell_blk h9 rfl, cell_blk h9 rfl, cell_blk h9 rfl, cell_blk h9 rfl⟩))
      have hsc : ∀ w : World, Calls Tryz.prog 30 #[.agg #[.int .i64 n, .int .i64 f, .int .i64 sn, .int .i64 lg]] w fun e w' => e = .returned (.string sb) ∧ Fr [] w w' := fun w => by
        rw [← hsb]
        exact ref_sector w ⟨n, f, sn, lg⟩ HN.out.1 (by have := HN.out.2.2.2.1; show f ≤ 255; omega) HN.out.2.1 HN.out.2.2.1
      have HSC := hid hsc
      have HWR := hid hwr
      have HRES := hid hres
      have HS := hid H
      have htm : (n : Int).tmod 2 = (n : Int) % 2 := Int.tmod_eq_emod_of_nonneg (by omega)
      have HTM := hid htm
      clear hq hkp hRI hdr hrun hpl hsz hwd hm2 hsb hraw2 hwr hseteq hzr hd' hres hsc H hlt hI htm
      go_wp2_with fail
      have htm := HTM.out
      go_region_held3 (fun wx : World => (wx.cell? ⟨Y, 0, none⟩ = some (.pointer (some ⟨X, 0, none⟩)) ∧ wx.cell? ⟨hb9, 0, none⟩ = some (.int .i64 n) ∧ wx.cell? ⟨hb9, 1, none⟩ = some (.int .i64 f) ∧ wx.cell? ⟨hb9, 2, none⟩ = some (.int .i64 sn) ∧ wx.cell? ⟨hb9, 3, none⟩ = some (.int .i64 lg))) ((first | assumption | exact HSF.out _ _ HS.out.drew)) (first | (go_at_call 30; refine (HSC.out _).mono ?_; rintro e wn ⟨rfl, hFn⟩; have hSn := HS.out.drew.same hFn; have hNow := HSF.out _ _ hSn; have HSN := hid hSn) | (go_at_call 29; refine (HWR.out _ (by first | exact HSN.out | exact HS.out.drew)).mono ?_; rintro e w7 ⟨rfl, hS7⟩; have hNow2 := HSF.out _ _ hS7))
      clear hNow hNow2 hSn hFn htm
      have HDD := hid (st_rdead hS7 i (HT.out.2 d') zr)
      have y7 := (HSF.out _ _ hS7).1
      clear hS7 HSN HWR HSC HS
      go_wp2_with fail
      refine HDD.out.mono ?_
      rintro e w8 ⟨rfl, H8⟩
      clear y7 HDD
      rcases HRES.out with ⟨rfl, hrun⟩ | ⟨rfl, hrun⟩
      · have hx : ({ x with dead := x.dead || ((0 : Int) != 0) } : WS) = x := by cases x; simp
        rw [hx, things_set_self (HT.out.2 d')] at H8
        have hC := HC.out (by rw [hrun])
        rw [hrun] at hC
        have hC : Cnt d'.sec ⟨n, f, sn, lg⟩ s' l' ∧ d'.wf ∧ d'.dead = false ∧ d'.sec.length = d.sec.length := hC
        obtain ⟨a2, c2, rv2, hx2, hcs⟩ := st_rcnt H8 j (HT.out.1 d') hC.2.1 (by rw [hC.2.2.2]; exact HD.out.2.2.2)
        have d0 := cell_blk (i := 0) hx2 rfl
        have y0 := cell_blk (i := 0) (H8.blk i (HT.out.2 d')) rfl
        have HCS := hid hcs
        have HCC := hid hC.1
        have HRN := hid hrun
        obtain ⟨n2, hn2⟩ : ∃ n2, d'.sec.length = n2 := ⟨_, rfl⟩
        rw [hn2] at d0 HCS
        clear H8 hx hC hx2 hcs hrun hn2
        go_wp2_with fail
        with_reducible refine HCS.out.mono ?_
        rintro e w9 (⟨h9, s9, l9, hc9, p9, c9, rfl, hS9⟩ | ⟨hno, rfl, hS9⟩)
        rotate_left
        · exact absurd HCC.out.fd (hno _ (by omega) _ _ _)
        obtain ⟨rfl, rfl, rfl⟩ := hc9.uniq HCC.out
        have HS9 := hid (hS9.alloc_ (hdO ⟨n, f, sn, lg⟩)).drop
        have hY := HS9.out.blk i (HT.out.2 d')
        have u0 := cell_blk (i := 2) hY rfl
        have u1 := cell_blk (i := 3) hY rfl
        have u2 := cell_blk (i := 4) hY rfl
        have u3 := cell_blk (i := 5) hY rfl
        have u4 := cell_blk (i := 6) hY rfl
        have v0 := free_blk (i := 2) hY
        have v1 := free_blk (i := 3) hY
        have v2 := free_blk (i := 4) hY
        have v3 := free_blk (i := 5) hY
        have v4 := free_blk (i := 6) hY
        have hly := lt_of_block hY
        clear hS9 hc9 HCS d0 y0 hY
        unfold hV
        have HEND := hid (HS9.out.rlSet i (HT.out.2 d') ⟨n, f, sn, lg⟩ l9.length)
        go_wp2_with fail
        go_ret
        refine .inl ⟨by rw [HRN.out], rfl, ?_⟩
        have h := HEND.out
        rw [List.set_append_left _ _ (by rw [List.length_set]; exact HX.out.2.2.2.1)] at h
        have h := h.drop
        rw [HRN.out, List.set_comm _ _ HX.out.2.2.1]
        exact h
      · have hx : ({ x with dead := x.dead || ((2 : Int) != 0) } : WS) = { x with dead := true } := by cases x; simp
        rw [hx, List.set_append_left _ _ (by rw [List.length_set]; exact HX.out.2.2.2.1)] at H8
        have HEND := hid H8.drop
        have HRN := hid hrun
        clear H8 hrun hx
        go_wp2_with fail
        go_ret
        refine .inr ⟨by rw [HRN.out], rfl, ?_⟩
        rw [HRN.out, List.set_comm _ _ HX.out.2.2.1]
        exact HEND.out
end
end Go.Proofs.YthghnlgojmedgaaGreat

/-
  The document's log: Append, Snapshot.
-/
namespace Go.Proofs.YthghnlgojmedgaaGreat
open Go.RowKit
set_option linter.unusedVariables false
set_option linter.unusedSimpArgs false

/-- A call that was not cut. -/
theorem call_zero {x : WS} {d : DS} {s s' t : ByteArray} {l l' : List ByteArray} {at_ : Nat} {h' : WH} (L : Log x d s l) (P : Pl d.sec h'.half at_ (bl t)) (hN : x.h.number < 1099511627776) (hn : h'.number = x.h.number + 1)
    (hs : h'.snap ≤ 17000) (hfit : h'.snap + h'.log = at_ + t.size) (e : hTake d.sec h'.half at_ ++ bl t = bl s' ++ frs l') (hs' : s'.size = h'.snap) (ok : okRecs l') (h0 : (runP d (callW d at_ t h')).1 = 0) :
    Cnt (runP d (callW d at_ t h')).2.sec h' s' l' ∧ (runP d (callW d at_ t h')).2.wf ∧ (runP d (callW d at_ t h')).2.dead = false ∧ (runP d (callW d at_ t h')).2.sec.length = d.sec.length := by
  have hw := run_wfD (callW d at_ t h') d L.wf
  have hr : runP d (callW d at_ t h') = (0, behindN d (callW d at_ t h') (callW d at_ t h').length) := by
    rcases run_to _ d L.on L.wf.a0 (callW_ok P) with ⟨_, h⟩ | ⟨k, h1, h2, x9, h3, h4⟩
    · exact h
    · rw [h4] at h0; cases h0
  rw [hr] at hw ⊢
  have hsec : (behindN d (callW d at_ t h') (callW d at_ t h').length).sec = (setAll d.sec (plan d.sec h'.half at_ (bl t))).set (h'.number % 2) (secB h') := by
    unfold behindN
    rw [List.take_length]
    exact callW_set
  refine ⟨?_, hw.1, L.on, hw.2.1⟩
  show Cnt (behindN d (callW d at_ t h') (callW d at_ t h').length).sec h' s' l'
  rw [hsec]
  exact (cnt_done L.cnt P hN hn rfl hs (by rw [bl_len]; exact hfit) e hs' ok).1

section
variable {W : Base} {w : World} {R : List Thing}
set_option maxHeartbeats 1600000 in
set_option maxRecDepth 100000 in
theorem st_rappend (H : St W w R) (i j : Nat) {Y X : Nat} {x : WS} {d : DS} (hi : R[i]? = some (RlT Y X x)) (hj : R[j]? = some (XkT X d)) (hij : i ≠ j) (L : LgI x d) (hlog : x.dead = false → d.dead = false → ∃ s l, Log x d s l) (r : ByteArray) (hr47 : r.size ≤ 140737488355328) (hraw : (d.raw.length + 2000) * 24 ≤ 140737488355328) :
    Calls Tryz.prog 50 #[.pointer (some ⟨Y, 0, none⟩), .string r] w fun e w' => e = .returned (.int .i64 (x.append d r).1) ∧ St W w' ((R.set i (RlT Y X (x.append d r).2.1)).set j (XkT X (x.append d r).2.2)) := by
  have hil := lt_of_get hi
  have hjl := lt_of_get hj
  by_cases hd : x.dead = true ∨ d.dead = true
  · have hres : x.append d r = (2, { x with dead := true }, d) := by unfold WS.append; rw [if_pos hd]
    rw [hres]
    have hdd : (x.dead || d.dead) = true := by rcases hd with h | h <;> simp [h]
    clear hd hres hlog L hraw hr47
    have HG := hid (st_rgone H i j hi hj)
    have HH := hid (And.intro hi (And.intro hj hij))
    clear H
    go_enter Tryz.func50, Tryz.ntmps50
    go_wp2_with fail
    refine HG.out.mono ?_
    rintro e w1 ⟨rfl, H⟩
    rw [hdd] at H ⊢
    have HS := hid H
    clear H HG hi hj hij
    go_wp2_with fail
    go_ret
    refine ⟨rfl, ?_⟩
    rw [things_set_self (i := j) (by rw [List.getElem?_set_ne HH.out.2.2]; exact HH.out.2.1)]
    exact HS.out
  have hdx : x.dead = false := by cases h : x.dead; rfl; exact absurd (.inl h) hd
  have hdd : d.dead = false := by cases h : d.dead; rfl; exact absurd (.inr h) hd
  obtain ⟨s0, l0, hlg⟩ := hlog hdx hdd
  have HLG := hid hlg
  have HR47 := hid (And.intro hr47 (And.intro hraw (And.intro hil hjl)))
  clear hlog hlg hr47 hraw hil hjl
  by_cases hlong : r.size = 0 ∨ 2048 < r.size
  · have hres : x.append d r = (92, x, d) := by unfold WS.append; rw [if_neg hd, if_pos hlong]
    rw [hres]
    by_cases hz : r.size < 1
    · have b1 : decide (r.size < 1) = true := decide_eq_true hz
      have b1' : decide ((r.size : Int) < 1) = true := decide_eq_true (by omega)
      have bz : r.size = 0 := by omega
      clear hd hres hlong hz
      have HG := hid (st_rgone H i j hi hj)
      have HH := hid (And.intro hi (And.intro hj hij))
      clear H
      go_enter Tryz.func50, Tryz.ntmps50
      go_wp2_with fail
      refine HG.out.mono ?_
      rintro e w1 ⟨rfl, H⟩
      have hx1 : ({ x with dead := x.dead || d.dead } : WS) = x := by cases x; simp only at hdx; simp [hdx, hdd]
      rw [hx1, things_set_self hi] at H
      have hb1 : (x.dead || d.dead) = false := by simp [hdx, hdd]
      rw [hb1]
      obtain ⟨a0, c0, rv0, hxk, hcs⟩ := st_rcnt H j hj L.wf L.fit
      have y0 := cell_blk (i := 0) (H.blk i hi) rfl
      have d0 := cell_blk (i := 0) hxk rfl
      have HCS := hid hcs
      obtain ⟨nn, hnn⟩ : ∃ nn, d.sec.length = nn := ⟨_, rfl⟩
      rw [hnn] at d0 HCS
      have HNN := hid hnn
      clear H hx1 hb1 hxk hcs HG hnn hi hj hij
      go_wp2_with fail
      with_reducible refine HCS.out.mono ?_
      rintro e w2 (⟨h9, s9, l9, hc9, p9, c9, rfl, hS9⟩ | ⟨hno, rfl, hS9⟩)
      rotate_left
      · exact absurd HLG.out.cnt.fd (hno _ (by omega) _ _ _)
      obtain ⟨rfl, rfl, rfl⟩ := hc9.uniq HLG.out.cnt
      obtain ⟨hq, hhq⟩ : ∃ hq, w2.heap.size = hq := ⟨_, rfl⟩
      have H2 := hS9.alloc (hdO x.h)
      rw [hhq] at H2
      have HS := hid (show St W (w2.alloc (hdO x.h)) (R ++ [TxT p9 c9 l9, BlkT hq (hdO x.h)]) from by simpa using H2)
      have HHQ := hid hhq
      clear hS9 hc9 HCS d0 y0 hhq H2
      unfold hV
      go_wp2_with fail
      go_ret
      exact ⟨rfl, by rw [things_set_self HH.out.1, things_set_self HH.out.2.1]; exact HS.out.drop⟩
    · have b1 : decide (r.size < 1) = false := decide_eq_false hz
      have b1' : decide ((r.size : Int) < 1) = false := decide_eq_false (by omega)
      have b2 : decide ((2048 : Int) < r.size) = true := decide_eq_true (by omega)
      have b2' : decide (2048 < r.size) = true := decide_eq_true (by omega)
      clear hd hres hlong hz
      have HG := hid (st_rgone H i j hi hj)
      have HH := hid (And.intro hi (And.intro hj hij))
      clear H
      go_enter Tryz.func50, Tryz.ntmps50
      go_wp2_with fail
      refine HG.out.mono ?_
      rintro e w1 ⟨rfl, H⟩
      have hx1 : ({ x with dead := x.dead || d.dead } : WS) = x := by cases x; simp only at hdx; simp [hdx, hdd]
      rw [hx1, things_set_self hi] at H
      have hb1 : (x.dead || d.dead) = false := by simp [hdx, hdd]
      rw [hb1]
      obtain ⟨a0, c0, rv0, hxk, hcs⟩ := st_rcnt H j hj L.wf L.fit
      have y0 := cell_blk (i := 0) (H.blk i hi) rfl
      have d0 := cell_blk (i := 0) hxk rfl
      have HCS := hid hcs
      obtain ⟨nn, hnn⟩ : ∃ nn, d.sec.length = nn := ⟨_, rfl⟩
      rw [hnn] at d0 HCS
      have HNN := hid hnn
      clear H hx1 hb1 hxk hcs HG hnn hi hj hij
      go_wp2_with fail
      with_reducible refine HCS.out.mono ?_
      rintro e w2 (⟨h9, s9, l9, hc9, p9, c9, rfl, hS9⟩ | ⟨hno, rfl, hS9⟩)
      rotate_left
      · exact absurd HLG.out.cnt.fd (hno _ (by omega) _ _ _)
      obtain ⟨rfl, rfl, rfl⟩ := hc9.uniq HLG.out.cnt
      obtain ⟨hq, hhq⟩ : ∃ hq, w2.heap.size = hq := ⟨_, rfl⟩
      have H2 := hS9.alloc (hdO x.h)
      rw [hhq] at H2
      have HS := hid (show St W (w2.alloc (hdO x.h)) (R ++ [TxT p9 c9 l9, BlkT hq (hdO x.h)]) from by simpa using H2)
      have HHQ := hid hhq
      clear hS9 hc9 HCS d0 y0 hhq H2
      unfold hV
      go_wp2_with fail
      go_ret
      exact ⟨rfl, by rw [things_set_self HH.out.1, things_set_self HH.out.2.1]; exact HS.out.drop⟩
  have hl1 : ¬ r.size < 1 := by omega
  have b1 : decide (r.size < 1) = false := decide_eq_false hl1
  have b1' : decide ((r.size : Int) < 1) = false := decide_eq_false (by omega)
  have b2 : decide ((2048 : Int) < r.size) = false := decide_eq_false (by omega)
  have b2' : decide (2048 < r.size) = false := decide_eq_false (by omega)
  obtain ⟨t, ht⟩ : ∃ t, tf r = t := ⟨_, rfl⟩
  have hts : t.size ≤ 2050 := by rw [← ht, tf_size]; have := nf_two (n := r.size) (by omega); omega
  have HTX := hid (show ∀ w, Calls Tryz.prog 72 #[.string r] w fun e w' => e = .returned (.string t) ∧ Fr [] w w' from fun w => by rw [← ht]; exact rtext_walk w r HR47.out.1)
  obtain ⟨q, hq⟩ : ∃ q, x.append d r = q := ⟨_, rfl⟩
  have hqe : q = if roomN d.sec.length < x.h.snap + x.h.log + t.size then (93, x, d) else if 1099511627776 ≤ x.h.number then (94, x, d)
      else if (runP d (callW d (x.h.snap + x.h.log) t (x.nxt t.size))).1 = 0 then (0, { x with h := x.nxt t.size, n := x.n + 1 }, (runP d (callW d (x.h.snap + x.h.log) t (x.nxt t.size))).2) else (2, { x with dead := true }, (runP d (callW d (x.h.snap + x.h.log) t (x.nxt t.size))).2) := by
    rw [← hq]; unfold WS.append; rw [if_neg hd, if_neg hlong, ht]
  rw [hq]
  have HQE := hid hqe
  have HT := hid (And.intro ht (And.intro hts (show okRec r from ⟨by omega, by omega⟩)))
  clear hd hlong hl1 ht hts hq hqe
  have HG := hid (st_rgone H i j hi hj)
  have HH := hid (And.intro hi (And.intro hj hij))
  clear H
  go_enter Tryz.func50, Tryz.ntmps50
  go_wp2_with fail
  refine HG.out.mono ?_
  rintro e w1 ⟨rfl, H⟩
  have hx1 : ({ x with dead := x.dead || d.dead } : WS) = x := by cases x; simp only at hdx; simp [hdx, hdd]
  rw [hx1, things_set_self hi] at H
  have hb1 : (x.dead || d.dead) = false := by simp [hdx, hdd]
  rw [hb1]
  obtain ⟨a0, c0, rv0, hxk, hcs⟩ := st_rcnt H j hj L.wf L.fit
  have y0 := cell_blk (i := 0) (H.blk i hi) rfl
  have d0 := cell_blk (i := 0) hxk rfl
  have HCS := hid hcs
  obtain ⟨nn, hnn⟩ : ∃ nn, d.sec.length = nn := ⟨_, rfl⟩
  rw [hnn] at d0 HCS
  have HNN := hid hnn
  clear H hx1 hb1 hxk hcs HG hnn hi hj hij
  go_wp2_with fail
  with_reducible refine HCS.out.mono ?_
  rintro e w2 (⟨h9, s9, l9, hc9, p9, c9, rfl, hS9⟩ | ⟨hno, rfl, hS9⟩)
  rotate_left
  · exact absurd HLG.out.cnt.fd (hno _ (by omega) _ _ _)
  obtain ⟨rfl, rfl, rfl⟩ := hc9.uniq HLG.out.cnt
  obtain ⟨hq, hhq⟩ : ∃ hq, w2.heap.size = hq := ⟨_, rfl⟩
  have H2 := hS9.alloc (hdO x.h)
  rw [hhq] at H2
  have HS := hid (show St W (w2.alloc (hdO x.h)) (R ++ [TxT p9 c9 l9, BlkT hq (hdO x.h)]) from by simpa using H2)
  have HHQ := hid hhq
  clear hS9 hc9 HCS d0 y0 hhq H2
  unfold hV
  go_wp2_with fail
  refine (HTX.out _).mono ?_
  rintro e w3 ⟨rfl, hF3⟩
  have HS3 := hid (HS.out.same hF3)
  obtain ⟨a1, c1, rv1, hxk⟩ := HS3.out.xk j (by rw [List.getElem?_append_left HR47.out.2.2.2]; exact HH.out.2.1)
  have d0 := cell_blk (i := 0) hxk rfl
  rw [HNN.out] at d0
  have y0 := cell_blk (i := 0) (HS3.out.blk i (by rw [List.getElem?_append_left HR47.out.2.2.1]; exact HH.out.1)) rfl
  have hhb := HS3.out.blk (R.length + 1) (b := hq) (o := hdO x.h) (by rw [get_behind]; rfl)
  have z0 := cell_blk (i := 0) hhb rfl
  have z1 := cell_blk (i := 1) hhb rfl
  have z2 := cell_blk (i := 2) hhb rfl
  have z3 := cell_blk (i := 3) hhb rfl
  have hhq := HHQ.out
  obtain ⟨k1, k2, k3, k4⟩ := roomN_ok L.fit
  have hLr := L.room
  have hLn := L.num
  obtain ⟨rm, hrm⟩ : ∃ rm, roomN d.sec.length = rm := ⟨_, rfl⟩
  rw [hrm] at k4 hLr
  have hts := HT.out.2.1
  have hn2 := HNN.out
  have e0 : IntKind.i64.wrap ((nn : Int) / 2) = (nn : Int) / 2 := IntWalk.i64_in _ (by omega)
  have e1 : IntKind.i64.wrap ((nn : Int) / 2 - 1) = (nn : Int) / 2 - 1 := IntWalk.i64_in _ (by omega)
  have e2 : IntKind.i64.wrap (128 * ((nn : Int) / 2 - 1)) = (rm : Int) := by rw [IntWalk.i64_in _ (by omega)]; omega
  obtain ⟨at_, hat⟩ : ∃ a, x.h.snap + x.h.log = a := ⟨_, rfl⟩
  have e3 : IntKind.i64.wrap ((x.h.snap : Int) + x.h.log) = (at_ : Int) := by rw [IntWalk.i64_in _ (by omega)]; omega
  have e4 : IntKind.i64.wrap ((at_ : Int) + t.size) = (at_ : Int) + t.size := IntWalk.i64_in _ (by omega)
  have HRM := hid (And.intro hrm (And.intro hLr (And.intro hLn (And.intro k4 (And.intro k3 hat)))))
  obtain ⟨fb, hfb⟩ : ∃ fb, decide ((rm : Int) < (at_ : Int) + t.size) = fb := ⟨_, rfl⟩
  have HFB := hid hfb
  clear hF3 hxk hhb k1 k2 k3 k4 hLr hLn hrm hts hn2 HS hat
  go_upto_region 7 with (fail)
  go_cut [54] from 35 (fun s54 wx => s54 = .bool fb ∧ ∃ nq, wx = w3.drewN nq)
  case first =>
    have htd : (nn : Int).tdiv 2 = (nn : Int) / 2 := Int.tdiv_eq_ediv_of_nonneg (by omega)
    go_quiet (fail)
    go_wp2_with fail
    go_meet
    exact ⟨by rfl, _, rfl⟩
  obtain ⟨rfl, nq, rfl⟩ := hcut
  have HS4 := hid (HS3.out.drewN nq)
  generalize w3.drewN nq = w4 at HS4 ⊢
  clear d0 y0 z0 z1 z2 z3 e0 e1 e2 HS3 hfb hhq
  by_cases hfull : rm < at_ + t.size
  · have hfbt : fb = true := by rw [← HFB.out]; exact decide_eq_true (by omega)
    have HRS := hid (show q = (93, x, d) by rw [HQE.out, if_pos (by rw [HRM.out.1, HRM.out.2.2.2.2.2]; exact hfull)])
    subst hfbt
    clear hfull HQE
    go_wp2_with fail
    go_ret
    rw [HRS.out]
    exact ⟨rfl, by rw [things_set_self HH.out.1, things_set_self HH.out.2.1]; exact HS4.out.drop⟩
  have hfbt : fb = false := by rw [← HFB.out]; exact decide_eq_false (by omega)
  subst hfbt
  have hhb := HS4.out.blk (R.length + 1) (b := hq) (o := hdO x.h) (by rw [get_behind]; rfl)
  have z0 := cell_blk (i := 0) hhb rfl
  have z1 := cell_blk (i := 1) hhb rfl
  have z2 := cell_blk (i := 2) hhb rfl
  have z3 := cell_blk (i := 3) hhb rfl
  by_cases hend : 1099511627776 ≤ x.h.number
  · have hb9 : ((x.h.number : Int) == 1099511627776) = true := by rw [beq_iff_eq]; have := HRM.out.2.2.1; omega
    have HRS := hid (show q = (94, x, d) by rw [HQE.out, if_neg (by rw [HRM.out.1, HRM.out.2.2.2.2.2]; exact hfull), if_pos hend])
    clear hfull HQE hend hhb
    go_wp2_with fail
    go_ret
    rw [HRS.out]
    exact ⟨rfl, by rw [things_set_self HH.out.1, things_set_self HH.out.2.1]; exact HS4.out.drop⟩
  have hb9 : ((x.h.number : Int) == 1099511627776) = false := by rw [beq_eq_false_iff_ne]; omega
  have hqe := HQE.out
  rw [if_neg (by rw [HRM.out.1, HRM.out.2.2.2.2.2]; exact hfull), if_neg hend, HRM.out.2.2.2.2.2] at hqe
  obtain ⟨nb, hnb⟩ : ∃ nb, x.h.number + 1 = nb := ⟨_, rfl⟩
  obtain ⟨lg2, hlg2⟩ : ∃ lg2, x.h.log + t.size = lg2 := ⟨_, rfl⟩
  have hnx : x.nxt t.size = ⟨nb, x.h.half, x.h.snap, lg2⟩ := by unfold WS.nxt; rw [hnb, hlg2]
  rw [hnx] at hqe
  have hP : Pl d.sec x.h.half at_ (bl t) := by
    have h := log_pl HLG.out (r := r) (by rw [HT.out.1, HRM.out.1, HRM.out.2.2.2.2.2]; exact hfull)
    rw [HT.out.1, HRM.out.2.2.2.2.2] at h
    exact h
  have hok := HLG.out.cnt.fd
  have hcz := call_zero (h' := ⟨nb, x.h.half, x.h.snap, lg2⟩) (s' := s9) (l' := l9 ++ [r]) HLG.out hP (by omega) (by rw [← hnb]) hok.ok.snap1 (by show x.h.snap + lg2 = at_ + t.size; have := HRM.out.2.2.2.2.2; omega)
    (by show hTake d.sec x.h.half at_ ++ _ = _; rw [← HRM.out.2.2.2.2.2, hok.all, frs_snoc, List.append_assoc, HT.out.1]) hok.size.1 (okRecs_snoc hok.recs HT.out.2.2)
  have hly := st_rlay HS4.out i j (Y := Y) (X := X) (x := x) (d := d) (by rw [List.getElem?_append_left HR47.out.2.2.1]; exact HH.out.1) (by rw [List.getElem?_append_left HR47.out.2.2.2]; exact HH.out.2.1) HH.out.2.2 HLG.out.wf HLG.out.on HLG.out.alive HLG.out.fit at_ t ⟨nb, x.h.half, x.h.snap, lg2⟩ hP HR47.out.2.1
    (by show nb ≤ _; omega) (by have := hok.ok.snap1; show x.h.snap ≤ _; omega) (by show lg2 ≤ _; have := HRM.out.2.1; have := roomN_le d.sec.length; have := HRM.out.1; have := HT.out.2.1; omega) s9 (l9 ++ [r]) hcz
  unfold hV at hly
  dsimp only at hly
  have HLY := hid hly
  have HQ2 := hid hqe
  have e5 : IntKind.i64.wrap ((x.h.number : Int) + 1) = (nb : Int) := by rw [IntWalk.i64_in _ (by omega)]; omega
  have e6 : IntKind.i64.wrap ((x.h.log : Int) + t.size) = (lg2 : Int) := by
    have := HRM.out.2.1; have := roomN_le d.sec.length; have := HRM.out.1; have := HT.out.2.1
    rw [IntWalk.i64_in _ (by omega)]; omega
  clear hfull hend HQE hqe hnb hlg2 hnx hP hok hcz hly hhb
  go_wp2_with fail
  with_reducible refine HLY.out.mono ?_
  rintro e w5 (⟨h0, rfl, h5⟩ | ⟨h2, rfl, h5⟩)
  · have HE := hid (And.intro h0 h5)
    clear h0 h5
    go_wp2_with fail
    go_ret
    have hh := HE.out.2
    rw [List.set_append_left _ _ HR47.out.2.2.1, List.set_append_left _ _ (by rw [List.length_set]; exact HR47.out.2.2.2)] at hh
    have hh := hh.drop
    rw [HQ2.out, if_pos HE.out.1]
    refine ⟨rfl, ?_⟩
    have hn9 : (l9 ++ [r]).length = x.n + 1 := by rw [List.length_append, HLG.out.n]; rfl
    rw [hn9] at hh
    exact hh
  · have HE := hid (And.intro h2 h5)
    clear h2 h5
    go_wp2_with fail
    go_ret
    have hh := HE.out.2
    rw [List.set_append_left _ _ HR47.out.2.2.1, List.set_append_left _ _ (by rw [List.length_set]; exact HR47.out.2.2.2)] at hh
    have hh := hh.drop
    rw [HQ2.out, if_neg (by rw [HE.out.1]; decide)]
    exact ⟨rfl, hh⟩

set_option maxHeartbeats 1600000 in
set_option maxRecDepth 100000 in
theorem st_rsnapshot (H : St W w R) (i j : Nat) {Y X : Nat} {x : WS} {d : DS} (hi : R[i]? = some (RlT Y X x)) (hj : R[j]? = some (XkT X d)) (hij : i ≠ j) (L : LgI x d) (hlog : x.dead = false → d.dead = false → ∃ s l, Log x d s l) (r : ByteArray) (hr47 : r.size ≤ 140737488355328) (hraw : (d.raw.length + 2000) * 24 ≤ 140737488355328) :
    Calls Tryz.prog 52 #[.pointer (some ⟨Y, 0, none⟩), .string r] w fun e w' => e = .returned (.int .i64 (x.snapshot d r).1) ∧ St W w' ((R.set i (RlT Y X (x.snapshot d r).2.1)).set j (XkT X (x.snapshot d r).2.2)) := by
  have hil := lt_of_get hi
  have hjl := lt_of_get hj
  by_cases hd : x.dead = true ∨ d.dead = true
  · have hres : x.snapshot d r = (2, { x with dead := true }, d) := by unfold WS.snapshot; rw [if_pos hd]
    rw [hres]
    have hdd : (x.dead || d.dead) = true := by rcases hd with h | h <;> simp [h]
    clear hd hres hlog L hraw hr47
    have HG := hid (st_rgone H i j hi hj)
    have HH := hid (And.intro hi (And.intro hj hij))
    clear H
    go_enter Tryz.func52, Tryz.ntmps52
    go_wp2_with fail
    refine HG.out.mono ?_
    rintro e w1 ⟨rfl, H⟩
    rw [hdd] at H ⊢
    have HS := hid H
    clear H HG hi hj hij
    go_wp2_with fail
    go_ret
    refine ⟨rfl, ?_⟩
    rw [things_set_self (i := j) (by rw [List.getElem?_set_ne HH.out.2.2]; exact HH.out.2.1)]
    exact HS.out
  have hdx : x.dead = false := by cases h : x.dead; rfl; exact absurd (.inl h) hd
  have hdd : d.dead = false := by cases h : d.dead; rfl; exact absurd (.inr h) hd
  obtain ⟨s0, l0, hlg⟩ := hlog hdx hdd
  have HLG := hid hlg
  have HR47 := hid (And.intro hr47 (And.intro hraw (And.intro hil hjl)))
  clear hlog hlg hr47 hraw hil hjl
  obtain ⟨rm, hrm⟩ : ∃ rm, roomN d.sec.length = rm := ⟨_, rfl⟩
  have HRMM := hid hrm
  by_cases hl7 : 17000 < r.size
  · have hres : x.snapshot d r = (92, x, d) := by unfold WS.snapshot; rw [if_neg hd, if_pos (.inl hl7)]
    rw [hres]
    have b1 : decide ((17000 : Int) < r.size) = true := decide_eq_true (by omega)
    have b1' : decide (17000 < r.size) = true := decide_eq_true hl7
    clear hd hres hl7 hrm
    have HG := hid (st_rgone H i j hi hj)
    have HH := hid (And.intro hi (And.intro hj hij))
    clear H
    go_enter Tryz.func52, Tryz.ntmps52
    go_wp2_with fail
    refine HG.out.mono ?_
    rintro e w1 ⟨rfl, H⟩
    have hx1 : ({ x with dead := x.dead || d.dead } : WS) = x := by cases x; simp only at hdx; simp [hdx, hdd]
    rw [hx1, things_set_self hi] at H
    have hb1 : (x.dead || d.dead) = false := by simp [hdx, hdd]
    rw [hb1]
    obtain ⟨a0, c0, rv0, hxk, hcs⟩ := st_rcnt H j hj L.wf L.fit
    have y0 := cell_blk (i := 0) (H.blk i hi) rfl
    have d0 := cell_blk (i := 0) hxk rfl
    have HCS := hid hcs
    obtain ⟨nn, hnn⟩ : ∃ nn, d.sec.length = nn := ⟨_, rfl⟩
    rw [hnn] at d0 HCS
    have HNN := hid hnn
    clear H hx1 hb1 hxk hcs HG hnn hi hj hij
    go_wp2_with fail
    with_reducible refine HCS.out.mono ?_
    rintro e w2 (⟨h9, s9, l9, hc9, p9, c9, rfl, hS9⟩ | ⟨hno, rfl, hS9⟩)
    rotate_left
    · exact absurd HLG.out.cnt.fd (hno _ (by omega) _ _ _)
    obtain ⟨rfl, rfl, rfl⟩ := hc9.uniq HLG.out.cnt
    obtain ⟨hq, hhq⟩ : ∃ hq, w2.heap.size = hq := ⟨_, rfl⟩
    have H2 := hS9.alloc (hdO x.h)
    rw [hhq] at H2
    have HS := hid (show St W (w2.alloc (hdO x.h)) (R ++ [TxT p9 c9 l9, BlkT hq (hdO x.h)]) from by simpa using H2)
    have HHQ := hid hhq
    clear hS9 hc9 HCS d0 y0 hhq H2
    unfold hV
    go_wp2_with fail
    go_ret
    exact ⟨rfl, by rw [things_set_self HH.out.1, things_set_self HH.out.2.1]; exact HS.out.drop⟩
  have b1 : decide ((17000 : Int) < r.size) = false := decide_eq_false (by omega)
  have b1' : decide (17000 < r.size) = false := decide_eq_false hl7
  obtain ⟨q, hq⟩ : ∃ q, x.snapshot d r = q := ⟨_, rfl⟩
  have hqe : q = if rm < r.size then (92, x, d) else if 1099511627776 ≤ x.h.number then (94, x, d)
      else if (runP d (callW d 0 r (x.snapH r.size))).1 = 0 then (0, { x with h := x.snapH r.size, n := 0 }, (runP d (callW d 0 r (x.snapH r.size))).2) else (2, { x with dead := true }, (runP d (callW d 0 r (x.snapH r.size))).2) := by
    rw [← hq]; unfold WS.snapshot; rw [if_neg hd, hrm]
    by_cases h : rm < r.size
    · rw [if_pos (.inr h), if_pos h]
    · rw [if_neg (by omega), if_neg h]
  rw [hq]
  have HQE := hid hqe
  have HL7 := hid hl7
  clear hd hq hqe hl7 hrm
  have HG := hid (st_rgone H i j hi hj)
  have HH := hid (And.intro hi (And.intro hj hij))
  clear H
  go_enter Tryz.func52, Tryz.ntmps52
  go_wp2_with fail
  refine HG.out.mono ?_
  rintro e w1 ⟨rfl, H⟩
  have hx1 : ({ x with dead := x.dead || d.dead } : WS) = x := by cases x; simp only at hdx; simp [hdx, hdd]
  rw [hx1, things_set_self hi] at H
  have hb1 : (x.dead || d.dead) = false := by simp [hdx, hdd]
  rw [hb1]
  obtain ⟨a0, c0, rv0, hxk, hcs⟩ := st_rcnt H j hj L.wf L.fit
  have y0 := cell_blk (i := 0) (H.blk i hi) rfl
  have d0 := cell_blk (i := 0) hxk rfl
  have HCS := hid hcs
  obtain ⟨nn, hnn⟩ : ∃ nn, d.sec.length = nn := ⟨_, rfl⟩
  rw [hnn] at d0 HCS
  have HNN := hid hnn
  clear H hx1 hb1 hxk hcs HG hnn hi hj hij
  go_wp2_with fail
  with_reducible refine HCS.out.mono ?_
  rintro e w2 (⟨h9, s9, l9, hc9, p9, c9, rfl, hS9⟩ | ⟨hno, rfl, hS9⟩)
  rotate_left
  · exact absurd HLG.out.cnt.fd (hno _ (by omega) _ _ _)
  obtain ⟨rfl, rfl, rfl⟩ := hc9.uniq HLG.out.cnt
  obtain ⟨hq, hhq⟩ : ∃ hq, w2.heap.size = hq := ⟨_, rfl⟩
  have H2 := hS9.alloc (hdO x.h)
  rw [hhq] at H2
  have HS := hid (show St W (w2.alloc (hdO x.h)) (R ++ [TxT p9 c9 l9, BlkT hq (hdO x.h)]) from by simpa using H2)
  have HHQ := hid hhq
  clear hS9 hc9 HCS d0 y0 hhq H2
  unfold hV
  obtain ⟨a1, c1, rv1, hxk⟩ := HS.out.xk j (by rw [List.getElem?_append_left HR47.out.2.2.2]; exact HH.out.2.1)
  have d0 := cell_blk (i := 0) hxk rfl
  rw [HNN.out] at d0
  have y0 := cell_blk (i := 0) (HS.out.blk i (by rw [List.getElem?_append_left HR47.out.2.2.1]; exact HH.out.1)) rfl
  have hhb := HS.out.blk (R.length + 1) (b := hq) (o := hdO x.h) (by rw [get_behind]; rfl)
  have z0 := cell_blk (i := 0) hhb rfl
  have z1 := cell_blk (i := 1) hhb rfl
  have hhq := HHQ.out
  obtain ⟨k1, k2, k3, k4⟩ := roomN_ok L.fit
  have hrm := HRMM.out
  rw [hrm] at k4
  have hn2 := HNN.out
  have hLn := L.num
  have hLh := L.half1
  have e0 : IntKind.i64.wrap ((nn : Int) / 2) = (nn : Int) / 2 := IntWalk.i64_in _ (by omega)
  have e1 : IntKind.i64.wrap ((nn : Int) / 2 - 1) = (nn : Int) / 2 - 1 := IntWalk.i64_in _ (by omega)
  have e2 : IntKind.i64.wrap (128 * ((nn : Int) / 2 - 1)) = (rm : Int) := by rw [IntWalk.i64_in _ (by omega)]; omega
  have HRM := hid (And.intro hLn (And.intro hLh (And.intro k4 k3)))
  clear hxk hhb k1 k2 k3 k4 hLn hLh hn2 hrm
  by_cases hfull : rm < r.size
  · have b3 : decide ((rm : Int) < r.size) = true := decide_eq_true (by omega)
    have b3' : decide (rm < r.size) = true := decide_eq_true hfull
    have HRS := hid (show q = (92, x, d) by rw [HQE.out, if_pos hfull])
    clear hfull HQE
    go_wp2_with fail
    go_ret
    rw [HRS.out]
    exact ⟨rfl, by rw [things_set_self HH.out.1, things_set_self HH.out.2.1]; exact HS.out.drop⟩
  have b3 : decide ((rm : Int) < r.size) = false := decide_eq_false (by omega)
  have b3' : decide (rm < r.size) = false := decide_eq_false hfull
  by_cases hend : 1099511627776 ≤ x.h.number
  · have hb9 : ((x.h.number : Int) == 1099511627776) = true := by rw [beq_iff_eq]; have := HRM.out.1; omega
    have HRS := hid (show q = (94, x, d) by rw [HQE.out, if_neg hfull, if_pos hend])
    clear hfull HQE hend
    go_wp2_with fail
    go_ret
    rw [HRS.out]
    exact ⟨rfl, by rw [things_set_self HH.out.1, things_set_self HH.out.2.1]; exact HS.out.drop⟩
  have hb9 : ((x.h.number : Int) == 1099511627776) = false := by rw [beq_eq_false_iff_ne]; omega
  have hqe := HQE.out
  rw [if_neg hfull, if_neg hend] at hqe
  obtain ⟨nb, hnb⟩ : ∃ nb, x.h.number + 1 = nb := ⟨_, rfl⟩
  obtain ⟨hf2, hhf⟩ : ∃ hf2, 1 - x.h.half = hf2 := ⟨_, rfl⟩
  have hnx : x.snapH r.size = ⟨nb, hf2, r.size, 0⟩ := by unfold WS.snapH; rw [hnb, hhf]
  rw [hnx] at hqe
  have hP : Pl d.sec hf2 0 (bl r) := HLG.out.i.pl (by omega) (by have := HRMM.out; omega)
  have hcz := call_zero (h' := ⟨nb, hf2, r.size, 0⟩) (s' := r) (l' := []) HLG.out hP (by omega) (by rw [← hnb]) (by show r.size ≤ 17000; have := HL7.out; omega) (by show r.size + 0 = 0 + r.size; omega)
    (by rw [hTake_zero]; simp [frs]) rfl (fun _ h => by cases h)
  have hly := st_rlay HS.out i j (Y := Y) (X := X) (x := x) (d := d) (by rw [List.getElem?_append_left HR47.out.2.2.1]; exact HH.out.1) (by rw [List.getElem?_append_left HR47.out.2.2.2]; exact HH.out.2.1) HH.out.2.2 HLG.out.wf HLG.out.on HLG.out.alive HLG.out.fit 0 r ⟨nb, hf2, r.size, 0⟩ hP HR47.out.2.1
    (by show nb ≤ _; omega) (by show r.size ≤ _; have := HL7.out; omega) (by show 0 ≤ _; omega) r [] hcz
  unfold hV at hly
  dsimp only at hly
  rw [show ((0 : Nat) : Int) = 0 from rfl] at hly
  have HLY := hid hly
  have HQ2 := hid hqe
  have e5 : IntKind.i64.wrap ((x.h.number : Int) + 1) = (nb : Int) := by rw [IntWalk.i64_in _ (by omega)]; omega
  have e6 : IntKind.i64.wrap (1 - (x.h.half : Int)) = (hf2 : Int) := by
    have := HRM.out.2.1
    rw [IntWalk.i64_in _ (by omega)]; omega
  clear hfull hend HQE hqe hnb hhf hnx hP hcz hly
  go_wp2_with fail
  with_reducible refine HLY.out.mono ?_
  rintro e w5 (⟨h0, rfl, h5⟩ | ⟨h2, rfl, h5⟩)
  · have HE := hid (And.intro h0 h5)
    clear h0 h5
    go_wp2_with fail
    go_ret
    have hh := HE.out.2
    rw [List.set_append_left _ _ HR47.out.2.2.1, List.set_append_left _ _ (by rw [List.length_set]; exact HR47.out.2.2.2)] at hh
    have hh := hh.drop
    rw [HQ2.out, if_pos HE.out.1]
    exact ⟨rfl, hh⟩
  · have HE := hid (And.intro h2 h5)
    clear h2 h5
    go_wp2_with fail
    go_ret
    have hh := HE.out.2
    rw [List.set_append_left _ _ HR47.out.2.2.1, List.set_append_left _ _ (by rw [List.length_set]; exact HR47.out.2.2.2)] at hh
    have hh := hh.drop
    rw [HQ2.out, if_neg (by rw [HE.out.1]; decide)]
    exact ⟨rfl, hh⟩
end
end Go.Proofs.YthghnlgojmedgaaGreat
