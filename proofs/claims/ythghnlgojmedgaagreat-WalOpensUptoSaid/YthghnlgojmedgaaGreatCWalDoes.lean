/-
  WalDoes: the law's walk.
-/
import Derived.Test.YthghnlgojmedgaaGreatM36
namespace Go.Proofs.YthghnlgojmedgaaGreat
open Go.RowKit
set_option linter.unusedVariables false
set_option linter.unusedSimpArgs false

open Classical in
/-- Format, as plain data. -/
noncomputable def fm (d : DS) : Int × DS := if roomN d.sec.length = 0 then (91, d) else if (∃ h s l, Cnt d.sec h s l) then (95, d) else ((d.write 1 (secB fmtH)).1, (d.write 1 (secB fmtH)).2)
theorem FmTo.to {W : Base} {R : List Thing} {i : Nat} {A : DS → Thing} {d : DS} {e : Ending} {w' : World} (hi : R[i]? = some (A d)) (h : FmTo W R i A d e w') : e = .returned (.int .i64 (fm d).1) ∧ St W w' (R.set i (A (fm d).2)) := by
  unfold fm
  rcases h with ⟨h1, rfl, h2⟩ | ⟨h1, h3, rfl, h2⟩ | ⟨h1, h3, rfl, h2⟩
  · rw [if_pos h1, things_set_self hi]; exact ⟨rfl, h2⟩
  · rw [if_neg h1, if_pos h3, things_set_self hi]; exact ⟨rfl, h2⟩
  · rw [if_neg h1, if_neg (fun ⟨h, s, l, C⟩ => h3 _ (by omega) _ _ _ C.fd)]; exact ⟨rfl, h2⟩
theorem fm_wf {d : DS} (hw : d.wf) : (fm d).2.wf ∧ (fm d).2.raw.length ≤ d.raw.length + 1 ∧ (fm d).2.sec.length = d.sec.length := by
  unfold fm
  by_cases h1 : roomN d.sec.length = 0
  · rw [if_pos h1]; exact ⟨hw, Nat.le_succ _, rfl⟩
  rw [if_neg h1]
  by_cases h2 : ∃ h s l, Cnt d.sec h s l
  · rw [if_pos h2]; exact ⟨hw, Nat.le_succ _, rfl⟩
  rw [if_neg h2]
  exact ⟨write_wf hw 1 (secB fmtH), (write_len d 1 (secB fmtH)).2, (write_len d 1 (secB fmtH)).1⟩
theorem ref_new_bad09 (w : World) (n : Int) (h : n < 1 ∨ 1026 < n) :
    Calls Tryz.prog 6 #[.int .i64 n] w fun e w' => e = .returned (.tuple #[.pointer none, .int .i64 40]) ∧ w = w' := by
  rcases h with h | h
  · go_enter Tryz.func6, Tryz.ntmps6
    go_wp2
    go_ret2
    exact ⟨rfl, rfl⟩
  · have h1 : ¬ n < 1 := by omega
    go_enter Tryz.func6, Tryz.ntmps6
    go_wp2
    go_ret2
    exact ⟨rfl, rfl⟩

set_option maxHeartbeats 800000 in
set_option maxRecDepth 100000 in
theorem waldoes_any (w : World) (n : Int) (n1 : -9223372036854775808 ≤ n) (n2 : n ≤ 9223372036854775807)
    (s : Option Addr) (ns cs : Nat) (U : Nat → Value) (hT : SlIn w 5 48 s ns cs U) (hq0 : ∀ i, i < ns → I64 (U (i * 5))) (hq1 : ∀ i, i < ns → I64 (U (i * 5 + 1))) (hq2 : ∀ i, i < ns → I64 (U (i * 5 + 2))) (hq3 : ∀ i, i < ns → I64 (U (i * 5 + 3))) (hq4 : ∀ i, i < ns → Str (U (i * 5 + 4))) (hb : ns ≤ 1048576) :
    Calls Tryz.prog 3 #[.int .i64 n, .slice s ns cs] w fun e w' => e = .returned (.bool true) ∧ Fr [] w w' := by
  obtain ⟨l, hO⟩ := ops9_of hT hq0 hq1 hq2 hq3 hq4
  have HO := hid (And.intro hO hb)
  clear hO hb hT hq0 hq1 hq2 hq3 hq4
  by_cases hn : n < 1 ∨ 1026 < n
  · have HN := hid (disk_new_bad w n hn)
    have HM := hid (ref_new_bad09 w n hn)
    have HX := hid (st_fixed09 (St.refl w))
    clear hn
    go_enter Tryz.func3, Tryz.ntmps3
    go_wp2_with fail
    refine HN.out.mono ?_
    rintro e w1 ⟨rfl, rfl⟩
    go_wp2_with fail
    refine HM.out.mono ?_
    rintro e w1 ⟨rfl, rfl⟩
    go_wp2_with fail
    refine HX.out.mono ?_
    rintro e w2 ⟨rfl, h2⟩
    have H2 := hid h2.fr
    clear h2
    go_wp2_with fail
    go_ret
    exact ⟨rfl, H2.out⟩
  · obtain ⟨m, rfl⟩ : ∃ m : Nat, n = m := ⟨n.toNat, by omega⟩
    have hm1 : 1 ≤ m := by omega
    have hm2 : m ≤ 1026 := by omega
    have HN := hid (st_dnew (St.refl w) m hm1 hm2)
    have HM := hid (fun wx T (hS : St (.of w) wx T) => st_ref_new hS m hm1 hm2)
    have HW := hid (And.intro (new_wf (n := m) hm1 hm2) (show (DS.new m).raw.length = 0 ∧ (DS.new m).dead = false from ⟨rfl, rfl⟩))
    generalize DS.new m = d at HN HM HW
    clear hn hm1 hm2 n1 n2
    go_enter Tryz.func3, Tryz.ntmps3
    go_wp2_with fail
    refine HN.out.mono ?_
    rintro e w1 ⟨D, rfl, h1⟩
    have H1 := hid h1
    clear h1
    go_wp2_with fail
    refine (HM.out _ _ H1.out).mono ?_
    rintro e w2 ⟨X, rfl, h2⟩
    simp only [List.nil_append, List.cons_append] at h2
    have H2 := hid h2
    clear h2 HN HM H1
    have hfw := fm_wf HW.out.1
    have K1 := hid (fun wx (hS : St (.of w) wx [DkT D d, XkT X d]) => (st_wformatA hS 0 rfl HW.out.1 HW.out.2.2 (by rw [HW.out.2.1]; decide)).mono fun e w' h => FmTo.to (i := 0) (A := DkT D) rfl h)
    have K2 := hid (fun wx (hS : St (.of w) wx [DkT D (fm d).2, XkT X d]) => (st_rformat hS 1 rfl HW.out.1 HW.out.2.2 (by rw [HW.out.2.1]; decide)).mono fun e w' h => FmTo.to (i := 1) (A := XkT X) rfl h)
    obtain ⟨z, hz⟩ : ∃ z, fm d = z := ⟨_, rfl⟩
    rw [hz] at K1 K2 hfw
    simp only [List.set_cons_zero, List.set_cons_succ] at K1 K2
    have hraw : z.2.raw.length ≤ 2 := by have := HW.out.2.1; omega
    have HZ := hid (And.intro hfw.1 hraw)
    clear hz hfw hraw HW
    obtain ⟨zc, d1⟩ := z
    simp only at K1 K2 HZ
    have K3 := hid (fun wx (hS : St (.of w) wx [DkT D d1, XkT X d1]) => st_sectors hS 0 rfl HZ.out.1)
    go_wp2_with fail
    go_upto_region 7 with (fail)
    go_cut [48] from 11 (fun s48 wx => s48 = .bool false ∧ St (.of w) wx [DkT D d1, XkT X d1])
    case first =>
      have HSa := hid H2.out.drew
      go_region_with (first
        | (go_at_call 8; with_reducible refine (K1.out _ HSa.out).mono ?_; rintro e w3 ⟨rfl, h3⟩; have H3 := hid h3; clear h3)
        | (go_at_call 9; with_reducible refine (K2.out _ H3.out).mono ?_; rintro e w4 ⟨rfl, h4⟩; have h4b := h4; obtain ⟨a4, c4, rv4, h4⟩ := h4.pin 1 rfl; have hx4 := (St.xkp h4 1 rfl); have x4 := cell_blk (i := 0) hx4.1 rfl; have H4 := hid h4; have K3b := hid (K3.out _ h4b); clear h4 hx4 h4b)
        | (go_at_call 11; with_reducible refine (st_sectors H4.out 0 rfl HZ.out.1).mono ?_; rintro e w5 ⟨g5, c5, rfl, h5⟩; have hx5 := (St.xkp h5 1 rfl); have x5 := cell_blk (i := 0) hx5.1 rfl; have H5 := hid h5; have HX5 := hid hx5.2; clear h5 hx5)
        | (go_at_call 10; with_reducible refine (st_same H5.out (H5.out.in_ 2 rfl) HX5.out).mono ?_; rintro e w6 ⟨rfl, h6⟩; have H6 := hid h6; clear h6))
      all_goals (go_wp2_with fail; go_meet)
      all_goals exact ⟨rfl, (H6.out.take 2).unpin 1 rfl⟩
    obtain ⟨rfl, hS7⟩ := hcut
    have HOD := hid (st_opened hS7 0 1 rfl rfl HZ.out.1)
    clear hS7 K1 K2 K3
    go_wp2_with fail
    refine HOD.out.mono ?_
    rintro e w8 (⟨rfl, hno, h8⟩ | ⟨hd, hf, h, s1, l1, C, B, Y, rfl, h8⟩)
    · have HX := hid (st_fixed09 (h8.alloc_ (.cells #[.pointer (some ⟨D, 0, none⟩), .pointer none, .pointer (some ⟨X, 0, none⟩), .pointer none] 42)))
      clear h8 hno HOD
      go_wp2_with fail
      refine HX.out.mono ?_
      rintro e w9 ⟨rfl, h9⟩
      have H9 := hid h9.fr
      clear h9 HX
      go_wp2_with fail
      go_ret
      exact ⟨rfl, H9.out⟩
    · have hpl := played9 (p := ⟨D, B, X, Y, d1, ⟨h, l1.length, false⟩⟩) ((h8.alloc_ (pO D B X Y)).perm (List.Perm.cons _ (List.Perm.swap _ _ _))) (PI.opened HZ.out.1 hf hd C (by have := HZ.out.2; omega)) s ns cs l HO.out.1 HO.out.2
      have HP := hid hpl
      clear h8 hd hf C hpl HOD
      go_wp2_with fail
      refine HP.out.mono ?_
      rintro e w9 ⟨rfl, h9⟩
      have H9 := hid h9
      have HX := hid (st_fixed09 (St.refl w9))
      clear h9 HP
      go_wp2_with fail
      refine HX.out.mono ?_
      rintro e w10 ⟨rfl, h10⟩
      have H10 := hid (H9.out.trans h10.fr)
      clear h10
      go_wp2_with fail
      go_ret
      exact ⟨rfl, H10.out⟩
end Go.Proofs.YthghnlgojmedgaaGreat
