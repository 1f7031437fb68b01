/-
  The walk of DiskTwins.
-/
import Derived.Test.YtkkahkgjedgjnaaDiskS
import Derived.Test.YtkkahkgjedgjnaaLasts
namespace Go.Proofs.Ytkkahkgjedgjnaa
open Go.RowKit
set_option linter.unusedVariables false
set_option linter.unusedSimpArgs false

theorem st_write_any {W w : World} {R : List Thing} (H : St W w R) (i : Nat) {D : Nat} {d : DS} (hi : R[i]? = some (DkT D d)) (k : Int) (s : ByteArray) (hw : d.wf) (hn : (d.raw.length + 1) * 24 ≤ 140737488355328) :
    Calls Try.prog 34 #[.pointer (some ⟨D, 0, none⟩), .int .i64 k, .string s] w fun e w' => ∃ z d', e = .returned (.int .i64 z) ∧ St W w' (R.set i (DkT D d')) ∧ d'.wf :=
  (st_write H i hi k s hw hn).mono fun e w' ⟨h1, h2⟩ => ⟨_, _, h1, h2, write_wf hw k s⟩

set_option maxHeartbeats 1600000 in
set_option maxRecDepth 100000 in
theorem twins04_any (w : World) (a b : Option Addr) (na ca nb cb : Nat) (n bytes : Int) (i1 i2 : Int) (s1 s2 : ByteArray) (ss : List ByteArray) (ws : List (Int × ByteArray)) (hna : ss.length = na) (hnb : ws.length = nb) (ha : In w 1 a na ca (strV ss)) (hb : In w 2 b nb cb (wrV ws)) (hn : nb * 24 ≤ 140737488351232) :
    Calls Try.prog 10 #[.agg #[.slice a na ca, .slice b nb cb, .int .i64 n, .int .i64 bytes], .agg #[.int .i64 i1, .string s1], .agg #[.int .i64 i2, .string s2]] w fun e w' => e = .returned (.bool true) ∧ Fr [] w w' := by
  subst hna hnb
  have hma := ha.max
  have hmb := hb.max
  have HA := hid ha
  have HB := hid hb
  clear ha hb
  have H : St w (((w.alloc (.cells #[.slice a ss.length ca, .slice b ws.length cb, .int .i64 n, .int .i64 bytes] 49)).alloc (.cells #[.int .i64 i1, .string s1] 56)).alloc (.cells #[.int .i64 i2, .string s2] 56)) _ :=
    (((St.refl w).allocAt _ w.heap.size rfl).allocAt _ (w.heap.size + 1) (by simp)).allocAt _ (w.heap.size + 1 + 1) (by simp)
  go_enter Try.func10, Try.ntmps10
  go_wp2_with fail
  refine (st_made H (HA.out.fr0 H.fr) (HB.out.fr0 H.fr) (by omega)).mono ?_
  clear H
  rintro e w1 (⟨hbad, rfl, H⟩ | ⟨hok, D, rfl, H⟩)
  · have k0 := cell_blk (i := 0) (H.blk 0 rfl) rfl
    have HR := hid (ref_load_bad w1 a ca ss (HA.out.fr0 H.fr) hbad)
    have hcode := loadE_bad hbad
    clear hbad
    generalize loadE ss = code at HR hcode
    rcases hcode with rfl | rfl
    all_goals
      go_wp2_with fail
      refine HR.out.mono ?_
      rintro e w2 ⟨rfl, rfl⟩
      go_wp2_with fail
      refine (st_fixed H).mono ?_
      rintro e w2 ⟨rfl, H⟩
      go_wp2_with fail
      go_ret
      exact ⟨rfl, H.fr⟩
  have hwf := runW_wf (of_wf hok) ws ws.length (Nat.le_refl _)
  have hlen := (runW_len (DS.of ss) ws ws.length (Nat.le_refl _)).2
  have hlen2 : (runW (DS.of ss) ws ws.length).raw.length ≤ 0 + ws.length := hlen
  generalize runW (DS.of ss) ws ws.length = d at H hwf hlen2
  have hokd : okSecs d.sec := ⟨hwf.n1, hwf.n2, hwf.sz⟩
  have HX := hid (And.intro hwf (And.intro hlen2 hokd))
  clear hok hwf hlen hlen2 hokd
  go_wp2_with fail
  refine (st_sectors H 3 rfl HX.out.1).mono ?_
  clear H
  rintro e w101 ⟨g1, c1, rfl, H⟩
  try simp only [List.nil_append, List.cons_append, List.set_cons_zero, List.set_cons_succ] at H
  go_wp2_with fail
  refine (st_clone H 3 rfl HX.out.1 (by have := HX.out.2.1; omega)).mono ?_
  clear H
  rintro e w102 ⟨C, rfl, H⟩
  try simp only [List.nil_append, List.cons_append, List.set_cons_zero, List.set_cons_succ] at H
  go_wp2_with fail
  refine (st_load H (H.in_ 4 rfl) HX.out.2.2).mono ?_
  clear H
  rintro e w103 ⟨Y, rfl, H⟩
  try simp only [List.nil_append, List.cons_append, List.set_cons_zero, List.set_cons_succ] at H
  go_wp2_with fail
  refine (st_raw H 5 rfl (by have := HX.out.2.1; omega)).mono ?_
  clear H
  rintro e w104 ⟨a5, rfl, H⟩
  try simp only [List.nil_append, List.cons_append, List.set_cons_zero, List.set_cons_succ] at H
  go_wp2_with fail
  refine (st_raw H 3 rfl (by have := HX.out.2.1; omega)).mono ?_
  clear H
  rintro e w105 ⟨a6, rfl, H⟩
  try simp only [List.nil_append, List.cons_append, List.set_cons_zero, List.set_cons_succ] at H
  go_wp2_with fail
  refine (st_sameRaw H (H.in_ 7 rfl) (H.in_ 8 rfl)).mono ?_
  clear H
  rintro e w106 ⟨rfl, H⟩
  try simp only [List.nil_append, List.cons_append, List.set_cons_zero, List.set_cons_succ] at H
  go_wp2_with fail
  refine (st_raw H 6 rfl (by simp [DS.of])).mono ?_
  clear H
  rintro e w107 ⟨a8, rfl, H⟩
  try simp only [List.nil_append, List.cons_append, List.set_cons_zero, List.set_cons_succ] at H
  rw [show (DS.of d.sec).raw.length = 0 from rfl]
  have k1 := cell_blk (i := 0) (H.blk 1 rfl) rfl
  have k2 := cell_blk (i := 1) (H.blk 1 rfl) rfl
  go_wp2_with fail
  refine (st_write_any H 3 rfl i1 s1 HX.out.1 (by have := HX.out.2.1; omega)).mono ?_
  clear H
  rintro e w108 ⟨z1, d2, rfl, H, hwf2⟩
  try simp only [List.nil_append, List.cons_append, List.set_cons_zero, List.set_cons_succ] at H
  clear k1 k2
  have HY := hid hwf2
  clear hwf2
  go_wp2_with fail
  refine (st_sectors H 5 rfl HX.out.1).mono ?_
  clear H
  rintro e w109 ⟨g2, c2, rfl, H⟩
  try simp only [List.nil_append, List.cons_append, List.set_cons_zero, List.set_cons_succ] at H
  go_wp2_with fail
  refine (st_same H (H.in_ 10 rfl) (H.in_ 4 rfl)).mono ?_
  clear H
  rintro e w110 ⟨rfl, H⟩
  try simp only [List.nil_append, List.cons_append, List.set_cons_zero, List.set_cons_succ] at H
  go_wp2_with fail
  refine (st_sectors_of H 6 rfl (of_wf HX.out.2.2) (ss := d.sec) rfl).mono ?_
  clear H
  rintro e w111 ⟨g3, c3, rfl, H⟩
  try simp only [List.nil_append, List.cons_append, List.set_cons_zero, List.set_cons_succ] at H
  go_wp2_with fail
  refine (st_same H (H.in_ 11 rfl) (H.in_ 4 rfl)).mono ?_
  clear H
  rintro e w112 ⟨rfl, H⟩
  try simp only [List.nil_append, List.cons_append, List.set_cons_zero, List.set_cons_succ] at H
  go_wp2_with fail
  refine (st_sectors H 3 rfl HY.out).mono ?_
  clear H
  rintro e w113 ⟨g4, c4, rfl, H⟩
  try simp only [List.nil_append, List.cons_append, List.set_cons_zero, List.set_cons_succ] at H
  have k1 := cell_blk (i := 0) (H.blk 2 rfl) rfl
  have k2 := cell_blk (i := 1) (H.blk 2 rfl) rfl
  go_wp2_with fail
  refine (st_write_any H 5 rfl i2 s2 HX.out.1 (by have := HX.out.2.1; omega)).mono ?_
  clear H
  rintro e w114 ⟨z2, d3, rfl, H, _⟩
  try simp only [List.nil_append, List.cons_append, List.set_cons_zero, List.set_cons_succ] at H
  go_wp2_with fail
  refine (st_forget H 5 rfl).mono ?_
  clear H
  rintro e w115 ⟨rfl, H⟩
  try simp only [List.nil_append, List.cons_append, List.set_cons_zero, List.set_cons_succ] at H
  go_wp2_with fail
  refine (st_sectors H 3 rfl HY.out).mono ?_
  clear H
  rintro e w116 ⟨g5, c5, rfl, H⟩
  try simp only [List.nil_append, List.cons_append, List.set_cons_zero, List.set_cons_succ] at H
  go_wp2_with fail
  refine (st_same H (H.in_ 13 rfl) (H.in_ 12 rfl)).mono ?_
  clear H
  rintro e w117 ⟨rfl, H⟩
  try simp only [List.nil_append, List.cons_append, List.set_cons_zero, List.set_cons_succ] at H
  go_wp2_with fail
  refine (st_sectors_of H 6 rfl (of_wf HX.out.2.2) (ss := d.sec) rfl).mono ?_
  clear H
  rintro e w118 ⟨g6, c6, rfl, H⟩
  try simp only [List.nil_append, List.cons_append, List.set_cons_zero, List.set_cons_succ] at H
  go_wp2_with fail
  refine (st_same H (H.in_ 14 rfl) (H.in_ 4 rfl)).mono ?_
  clear H
  rintro e w119 ⟨rfl, H⟩
  try simp only [List.nil_append, List.cons_append, List.set_cons_zero, List.set_cons_succ] at H
  go_wp2_with fail
  refine (st_fixed H).mono ?_
  rintro e w21 ⟨rfl, H⟩
  go_wp2_with fail
  go_ret
  exact ⟨rfl, H.fr⟩

theorem twins04_walk (w : World) (a : Option Addr) (na ca : Nat) (V : Nat → Value) (hS : SlIn w 1 16 a na ca V) (hq : ∀ i, i < na → Str (V (i * 1)))
    (b : Option Addr) (nb cb : Nat) (U : Nat → Value) (hT : SlIn w 2 24 b nb cb U) (hq0 : ∀ i, i < nb → I64 (U (i * 2))) (hq1 : ∀ i, i < nb → Str (U (i * 2 + 1)))
    (n : Int) (n1 : -9223372036854775808 ≤ n) (n2 : n ≤ 9223372036854775807) (m : Int) (m1 : -9223372036854775808 ≤ m) (m2 : m ≤ 9223372036854775807)
    (i1 : Int) (i11 : -9223372036854775808 ≤ i1) (i12 : i1 ≤ 9223372036854775807) (s1 : ByteArray) (hs1 : s1.size ≤ 140737488351232)
    (i2 : Int) (i21 : -9223372036854775808 ≤ i2) (i22 : i2 ≤ 9223372036854775807) (s2 : ByteArray) (hs2 : s2.size ≤ 140737488351232) :
    Calls Try.prog 10 #[.agg #[.slice a na ca, .slice b nb cb, .int .i64 n, .int .i64 m], .agg #[.int .i64 i1, .string s1], .agg #[.int .i64 i2, .string s2]] w fun e w' => e = .returned (.bool true) ∧ Fr [] w w' := by
  obtain ⟨ss, hl, hI, _, _⟩ := strs_of hS hq
  obtain ⟨ws, hl2, hI2, hb, _⟩ := wrs_of hT hq0 hq1
  exact twins04_any w a b na ca nb cb n m i1 i2 s1 s2 ss ws hl hl2 hI hI2 hb

end Go.Proofs.Ytkkahkgjedgjnaa
