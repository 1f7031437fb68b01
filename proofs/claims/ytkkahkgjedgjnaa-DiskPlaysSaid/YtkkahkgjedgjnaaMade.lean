/-
  The laws' helper 'made': a disk of sectors that may be, written to.
-/
import Derived.Test.YtkkahkgjedgjnaaSame
import Derived.Deep.RegionWith
namespace Go.Proofs.Ytkkahkgjedgjnaa
open Go.RowKit
set_option linter.unusedVariables false
set_option linter.unusedSimpArgs false

/-- The sectors that may be. -/
def okSecs (ss : List ByteArray) : Prop := 1 ≤ ss.length ∧ ss.length ≤ 1026 ∧ ∀ i, i < ss.length → (sAt ss i).size = 128

def DS.of (ss : List ByteArray) : DS := ⟨ss, [], 0, 0, false⟩
/-- The first k writes done. -/
def runW (d : DS) (ws : List (Int × ByteArray)) (k : Nat) : DS := (ws.take k).foldl (fun d x => (d.write x.1 x.2).2) d

theorem of_wf {ss : List ByteArray} (h : okSecs ss) : (DS.of ss).wf := ⟨h.1, h.2.1, h.2.2, by simp [DS.of], by simp [DS.of], by simp [DS.of], by simp [DS.of]⟩

theorem runW_succ (d : DS) (ws : List (Int × ByteArray)) (k : Nat) (hk : k < ws.length) : runW d ws (k + 1) = ((runW d ws k).write (wAt ws k).1 (wAt ws k).2).2 := by
  unfold runW
  rw [List.take_succ_eq_append_getElem hk, List.foldl_append]
  simp [wAt, List.getD, hk]
theorem runW_zero (d : DS) (ws : List (Int × ByteArray)) : runW d ws 0 = d := rfl
theorem runW_wf {d : DS} (hw : d.wf) (ws : List (Int × ByteArray)) (k : Nat) (hk : k ≤ ws.length) : (runW d ws k).wf := by
  induction k with
  | zero => exact hw
  | succ k ih => rw [runW_succ _ _ _ (by omega)]; exact write_wf (ih (by omega)) _ _
theorem runW_len (d : DS) (ws : List (Int × ByteArray)) (k : Nat) (hk : k ≤ ws.length) : (runW d ws k).sec.length = d.sec.length ∧ (runW d ws k).raw.length ≤ d.raw.length + k := by
  induction k with
  | zero => exact ⟨rfl, Nat.le_refl _⟩
  | succ k ih =>
    rw [runW_succ _ _ _ (by omega)]
    have h1 := ih (by omega)
    have h2 := write_len (runW d ws k) (wAt ws k).1 (wAt ws k).2
    omega

theorem load_split (ss : List ByteArray) : okSecs ss ∨ (ss.length < 1 ∨ 1026 < ss.length) ∨ 1 ≤ ss.length ∧ ss.length ≤ 1026 ∧ ∃ i, i < ss.length ∧ (sAt ss i).size ≠ 128 := by
  by_cases h : ss.length < 1 ∨ 1026 < ss.length
  · exact .inr (.inl h)
  by_cases h2 : ∃ i, i < ss.length ∧ (sAt ss i).size ≠ 128
  · exact .inr (.inr ⟨by omega, by omega, h2⟩)
  · refine .inl ⟨by omega, by omega, fun i hi => ?_⟩
    by_cases h3 : (sAt ss i).size = 128
    · exact h3
    · exact absurd ⟨i, hi, h3⟩ h2

/-- Load, whatever it is handed. -/
theorem disk_load (w : World) (a : Option Addr) (cap : Nat) (ss : List ByteArray) (h : In w 1 a ss.length cap (strV ss)) :
    Calls Try.prog 41 #[.slice a ss.length cap] w fun e w' => Fr [] w w' ∧ (¬ okSecs ss ∧ (∃ code : Int, (code = 40 ∨ code = 41) ∧ code = loadE ss ∧ e = .returned (.tuple #[.pointer none, .int .i64 code])) ∨
      okSecs ss ∧ ∃ D F, e = .returned (.tuple #[.pointer (some ⟨D, 0, none⟩), .int .i64 0]) ∧ Dk w' F D (DS.of ss) ∧ ∀ x, x ∈ F → w.heap.size ≤ x) := by
  have hm := h.max
  by_cases h1 : ss.length < 1 ∨ 1026 < ss.length
  · refine (disk_load_bad w a ss.length cap h1 hm).mono ?_
    rintro e w' ⟨rfl, rfl⟩
    exact ⟨Fr.refl _ _, .inl ⟨fun h => by have := h.1; have := h.2.1; omega, 40, .inl rfl, by unfold loadE; rw [if_pos h1], rfl⟩⟩
  · refine (disk_load_ok w a cap ss h (by omega) (by omega)).mono ?_
    rintro e w' ⟨hF, ⟨hbad, rfl⟩ | ⟨hgood, D, F, rfl, hk, hf⟩⟩
    · exact ⟨hF, .inl ⟨fun h => by obtain ⟨i, hi, hs⟩ := hbad; exact hs (h.2.2 i hi), 41, .inr rfl, by unfold loadE; rw [if_neg h1, if_pos hbad], rfl⟩⟩
    · exact ⟨hF, .inr ⟨⟨by omega, by omega, hgood⟩, D, F, rfl, hk, hf⟩⟩

set_option maxHeartbeats 1600000 in
set_option maxRecDepth 100000 in
theorem made_any (w : World) (a b : Option Addr) (ca cb : Nat) (ss : List ByteArray) (ws : List (Int × ByteArray)) (ha : In w 1 a ss.length ca (strV ss)) (hb : In w 2 b ws.length cb (wrV ws)) (hn : ws.length * 24 ≤ 140737488355328) :
    Calls Try.prog 26 #[.slice a ss.length ca, .slice b ws.length cb] w fun e w' => Fr [] w w' ∧ (¬ okSecs ss ∧ e = .returned (.pointer none) ∨
      okSecs ss ∧ ∃ D F, e = .returned (.pointer (some ⟨D, 0, none⟩)) ∧ Dk w' F D (runW (DS.of ss) ws ws.length) ∧ ∀ x, x ∈ F → w.heap.size ≤ x) := by
  have hmb := hb.max
  have HB := hid hb
  have HC := hid (disk_load w a ca ss ha)
  clear hb ha
  go_enter Try.func26, Try.ntmps26
  go_wp2_with fail
  refine HC.out.mono ?_
  rintro e w1 ⟨hF, ⟨hbad, code, hcode, hle, rfl⟩ | ⟨hok, D, F, rfl, hDk, hFs⟩⟩
  · have HX := hid (And.intro hbad hF)
    clear hbad hF hle
    rcases hcode with rfl | rfl
    all_goals
      go_wp2_with fail
      go_ret
      exact ⟨HX.out.2, .inl ⟨HX.out.1, rfl⟩⟩
  · have HOK := hid hok
    have HFs := hid hFs
    clear hok hFs
    go_wp2_with fail
    go_loopw [7] (fun i wr => ∃ (k : Nat) (F' : List Nat), k ≤ ws.length ∧ i = .int .i64 k ∧ Dk wr F' D (runW (DS.of ss) ws k) ∧ (∀ x, x ∈ F' → w.heap.size ≤ x) ∧ Fr [] w wr) (fun i _ => ws.length - (intOf i).toNat)
    case atStart => exact ⟨0, F, Nat.zero_le _, rfl, hDk, HFs.out, hF⟩
    case round =>
      clear hDk hF
      obtain ⟨k, F', hk, rfl, hDk, hFs, hFw⟩ := hrel
      by_cases hlt : k < ws.length
      · obtain ⟨bb, ob, rfl⟩ := HB.out.sm (by omega)
        have c1 := hFw.cell0 (HB.out.cell bb ob rfl (k * 2) (by omega))
        have c2 := hFw.cell0 (HB.out.cell bb ob rfl (k * 2 + 1) (by omega))
        rw [wrV_0] at c1
        rw [wrV_1, ← Nat.add_assoc] at c2
        have hwf := runW_wf (of_wf HOK.out) ws k hk
        have hlen := runW_len (DS.of ss) ws k hk
        have hraw : ((runW (DS.of ss) ws k).raw.length + 1) * 24 ≤ 140737488355328 := by
          have : (DS.of ss).raw.length = 0 := rfl
          omega
        have HW := hid (fun wx (hx : Dk wx F' D (runW (DS.of ss) ws k)) => disk_write wx F' D _ (wAt ws k).1 (wAt ws k).2 hx hwf hraw)
        have HD := hid (And.intro hDk (And.intro hFs hFw))
        clear hDk hFs hFw hwf hraw hlen
        generalize hxx : wAt ws k = x at c1 c2 HW
        have HXX := hid hxx
        clear hxx
        go_wp2_with fail
        go_region_with (go_at_call 34; refine (HW.out _ (HD.out.1.keep ((Fr.refl [] wr).drew) (by simp))).mono ?_; rintro e w2 ⟨rfl, hF2, F2, hD2, hb2⟩)
        all_goals
          have hD2' : Dk w2 F2 D (runW (DS.of ss) ws (k + 1)) := by rw [runW_succ _ _ _ hlt, HXX.out]; exact hD2
          have HZ := hid (And.intro hD2' (And.intro hF2 hb2))
          clear hD2 hD2' hF2 hb2
          go_wp2_with fail
          go_roundw
          case rel =>
            refine ⟨k + 1, F2, by omega, by go_num, HZ.out.1, fun x hx => ?_, (HD.out.2.2.drew).step HZ.out.2.1 (fun x hx => .inr (HD.out.2.1 x hx))⟩
            rcases HZ.out.2.2 x hx with h1 | h1
            · exact HD.out.2.1 x h1
            · exact Nat.le_trans HD.out.2.2.size h1
          case measure => simp [intOf]; omega
      · obtain rfl : k = ws.length := by omega
        have HZ := hid (And.intro hDk (And.intro hFs hFw))
        clear hDk hFs hFw
        go_wp2_with fail
        go_ret
        exact ⟨HZ.out.2.2, .inr ⟨HOK.out, D, F', rfl, HZ.out.1, HZ.out.2.1⟩⟩

end Go.Proofs.Ytkkahkgjedgjnaa
