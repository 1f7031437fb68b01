/-
  Merged, in build order: WF W3 WG WH WI WJ WK WL.
-/
import Derived.Test.YthghnlgojmedgaaGreatM26
import Derived.Test.YthghnlgojmedgaaGreatM15
import Derived.Test.YthghnlgojmedgaaGreatM20
import Derived.Deep.RegionHeld3
import Derived.Deep.CutRange
import Derived.Deep.CutBlock
import Derived.Defers
/-
  wal: counts.
-/
namespace Go.Proofs.YthghnlgojmedgaaGreat
open Go.RowKit
set_option linter.unusedVariables false
set_option linter.unusedSimpArgs false

/-- The best head so far, with its snapshot and its records (and where they lie). -/
structure Bst where
  h : WH
  s : ByteArray
  l : List ByteArray
  q : Option Addr
abbrev hO (h : WH) : Obj := .cells #[.int .i64 (h.number : Nat), .int .i64 (h.half : Nat), .int .i64 (h.snap : Nat), .int .i64 (h.log : Nat)] 62
def bH : Option Bst → WH | none => ⟨0, 0, 0, 0⟩ | some x => x.h
def bS : Option Bst → ByteArray | none => ⟨#[]⟩ | some x => x.s
def bP : Option Bst → Value | none => .slice none 0 0 | some x => .slice x.q x.l.length x.l.length
def bA : Option Bst → Bool | none => false | some _ => true
def bL : Option Bst → List Thing | none => [] | some x => [WvT 9 1 x.q x.l.length (strV x.l)]
def CIv (ss : List ByteArray) (k : Nat) : Option Bst → Prop
  | none => ∀ a, a < k → ∀ g s l, ¬ Fd ss a g s l
  | some x => x.h.number % 2 < k ∧ Fd ss (x.h.number % 2) x.h x.s x.l ∧ ∀ a, a < k → ∀ g s l, Fd ss a g s l → g.number ≤ x.h.number
theorem CIv.no {ss : List ByteArray} {k : Nat} {o : Option Bst} (h : CIv ss k o) (hn : ∀ g s l, ¬ Fd ss k g s l) : CIv ss (k + 1) o := by
  cases o with
  | none =>
    intro a ha g s l hf
    by_cases hk : a = k
    · subst hk; exact hn g s l hf
    · exact h a (by omega) g s l hf
  | some x =>
    obtain ⟨h1, h2, h3⟩ := h
    refine ⟨by omega, h2, fun a ha g s l hf => ?_⟩
    by_cases hk : a = k
    · subst hk; exact absurd hf (hn g s l)
    · exact h3 a (by omega) g s l hf
theorem CIv.old {ss : List ByteArray} {k : Nat} {o : Option Bst} {h : WH} {s : ByteArray} {l : List ByteArray} (c : CIv ss k o) (hf : Fd ss k h s l) (hle : ¬ (bH o).number < h.number) : CIv ss (k + 1) o := by
  have h1 := hf.ok.n1
  cases o with
  | none => exact absurd (show (bH none).number < h.number from by show 0 < _; omega) hle
  | some x =>
    obtain ⟨c1, c2, c3⟩ := c
    refine ⟨by omega, c2, fun a ha g s' l' hg => ?_⟩
    by_cases hk : a = k
    · subst hk
      obtain ⟨rfl, _, _⟩ := hg.uniq hf
      exact Nat.not_lt.1 hle
    · exact c3 a (by omega) g s' l' hg
theorem CIv.new {ss : List ByteArray} {k : Nat} {o : Option Bst} {h : WH} {s : ByteArray} {l : List ByteArray} (c : CIv ss k o) (hf : Fd ss k h s l) (hlt : (bH o).number < h.number) (q : Option Addr) : CIv ss (k + 1) (some ⟨h, s, l, q⟩) := by
  have hp := hf.ok.par
  refine ⟨by show h.number % 2 < _; omega, by show Fd ss (h.number % 2) _ _ _; rw [hp]; exact hf, fun a ha g s' l' hg => ?_⟩
  by_cases hk : a = k
  · subst hk
    obtain ⟨rfl, _, _⟩ := hg.uniq hf
    exact Nat.le_refl _
  · cases o with
    | none => exact absurd hg (c a (by omega) g s' l')
    | some x => exact Nat.le_of_lt (Nat.lt_of_le_of_lt (c.2.2 a (by omega) g s' l' hg) hlt)
theorem CIv.cnt {ss : List ByteArray} {x : Bst} (c : CIv ss 2 (some x)) : Cnt ss x.h x.s x.l := by
  obtain ⟨c1, c2, c3⟩ := c
  refine ⟨c2, fun g s l hg => ?_⟩
  have h1 := c3 _ (by omega) g s l hg
  have h2 := hg.ok.par
  omega

section
variable {W : Base} {w : World} {R : List Thing}

/-- What counts comes to. -/
def CntTo (W : Base) (R : List Thing) (ss : List ByteArray) (e : Ending) (w' : World) : Prop :=
  (∃ h s l, Cnt ss h s l ∧ ∃ p, e = .returned (.tuple #[hV h, .string s, .slice p l.length l.length, .bool true]) ∧ St W w' (R ++ [WvT 9 1 p l.length (strV l)])) ∨
  ((∀ a, a < 2 → ∀ h s l, ¬ Fd ss a h s l) ∧ e = .returned (.tuple #[hV ⟨0, 0, 0, 0⟩, .string ⟨#[]⟩, .slice none 0 0, .bool false]) ∧ St W w' R)

set_option maxHeartbeats 4000000 in
set_option maxRecDepth 100000 in
theorem st_wcounts (H : St W w R) (i : Nat) {D : Nat} {d : DS} (hi : R[i]? = some (DkT D d)) (hw : d.wf) (hd : d.dead = false) (hf : roomN d.sec.length ≠ 0) :
    Calls Tryz.prog 24 #[.pointer (some ⟨D, 0, none⟩)] w (CntTo W R d.sec) := by
  have HFD := hid (fun w' T (h : St W w' (R ++ T)) (a : Nat) (ha : a ≤ 1) => st_wfound h i (by rw [List.getElem?_append_left (lt_of_get hi)]; exact hi) hw hd hf a ha)
  have hS := (H.alloc (hO ⟨0, 0, 0, 0⟩)).allocAt (hO ⟨0, 0, 0, 0⟩) (w.heap.size + 1) (by simp)
  rw [List.append_assoc] at hS
  have HS := hid hS
  clear H hi hw hd hf hS
  obtain ⟨ss, hss⟩ : ∃ ss, d.sec = ss := ⟨_, rfl⟩
  rw [hss] at HFD ⊢
  clear hss
  go_enter Tryz.func24, Tryz.ntmps24
  go_wp2_with fail
  go_loopw [7, 8, 9, 16] (fun s7 s8 s9 iv wr => ∃ (k : Nat) (o : Option Bst), k ≤ 2 ∧ iv = .int .i64 k ∧ Hid (CIv ss k o) ∧ s7 = .string (bS o) ∧ s8 = bP o ∧ s9 = .bool (bA o) ∧ St W wr (R ++ (BlkT w.heap.size (hO ⟨0, 0, 0, 0⟩) :: BlkT (w.heap.size + 1) (hO (bH o)) :: bL o))) (fun _ _ _ iv _ => 2 - (intOf iv).toNat)
  case atStart =>
    refine ⟨0, none, by omega, rfl, hid (fun a ha => absurd ha (Nat.not_lt_zero _)), rfl, rfl, rfl, ?_⟩
    exact HS.out
  case round =>
    obtain ⟨k, o, hk, rfl, hC, rfl, rfl, rfl, hS⟩ := hrel
    by_cases hlt : k < 2
    · have HF := hid (HFD.out wr _ hS k (by omega))
      clear hS HS
      go_wp2_with fail
      refine HF.out.mono ?_
      rintro e w3 hw3
      have hx : ∃ (h : WH) (s : ByteArray) (p : Value) (ok : Bool) (T : List Thing), e = .returned (.tuple #[hV h, .string s, p, .bool ok]) ∧ St W w3 (R ++ (BlkT w.heap.size (hO ⟨0, 0, 0, 0⟩) :: BlkT (w.heap.size + 1) (hO (bH o)) :: (bL o ++ T))) ∧
          ((∃ l q, ok = true ∧ p = .slice q l.length l.length ∧ Fd ss k h s l ∧ T = [WvT 9 1 q l.length (strV l)]) ∨ ok = false ∧ p = .slice none 0 0 ∧ (∀ g s l, ¬ Fd ss k g s l) ∧ T = []) := by
        rcases hw3 with ⟨h, s, l, hf, q, rfl, h3⟩ | ⟨hn, h, s, rfl, h3⟩
        · rw [List.append_assoc] at h3
          exact ⟨h, s, _, true, _, rfl, h3, .inl ⟨l, q, rfl, rfl, hf, rfl⟩⟩
        · refine ⟨h, s, _, false, [], rfl, ?_, .inr ⟨rfl, rfl, hn, rfl⟩⟩
          rw [List.append_nil]
          exact h3
      clear hw3 HF
      obtain ⟨h, s, p, ok, T, rfl, hS3, hres⟩ := hx
      have HRES := hid hres
      have HS3 := hid hS3
      have hb6 := hS3.blk (R.length + 1) (b := w.heap.size + 1) (by rw [get_behind]; rfl)
      have k0 := cell_blk (i := 0) hb6 rfl
      have k1 := cell_blk (i := 1) hb6 rfl
      have k2 := cell_blk (i := 2) hb6 rfl
      have k3 := cell_blk (i := 3) hb6 rfl
      have j0 := free_blk (i := 0) hb6
      have j1 := free_blk (i := 1) hb6
      have j2 := free_blk (i := 2) hb6
      have j3 := free_blk (i := 3) hb6
      have hl6 := lt_of_block hb6
      have hwk : IntKind.i64.wrap ((k : Int) + 1) = (k : Int) + 1 := IntWalk.i64_in _ (by omega)
      clear hres hS3 hb6
      unfold hV
      by_cases hok : ok = true
      · subst hok
        obtain ⟨l, q, rfl, hfd, rfl⟩ : ∃ l q, p = .slice q l.length l.length ∧ Fd ss k h s l ∧ T = [WvT 9 1 q l.length (strV l)] := by
          rcases HRES.out with ⟨l, q, _, h1, h2, h3⟩ | ⟨h1, _⟩
          · exact ⟨l, q, h1, h2, h3⟩
          · cases h1
        have HFd := hid hfd
        clear HRES hfd
        by_cases hgt : (bH o).number < h.number
        · have b1 : decide ((bH o).number < h.number) = true := decide_eq_true hgt
          have hnew := hid (hC.out.new HFd.out hgt q)
          have H4 : St W (((((w3.setCell ⟨w.heap.size + 1, 0, none⟩ (.int .i64 (h.number : Nat))).setCell ⟨w.heap.size + 1, 1, none⟩ (.int .i64 (h.half : Nat))).setCell ⟨w.heap.size + 1, 2, none⟩ (.int .i64 (h.snap : Nat))).setCell ⟨w.heap.size + 1, 3, none⟩ (.int .i64 (h.log : Nat))).alloc (hO h)) (R ++ (BlkT w.heap.size (hO ⟨0, 0, 0, 0⟩) :: BlkT (w.heap.size + 1) (hO h) :: [WvT 9 1 q l.length (strV l)])) := by
            have h0 := HS3.out
            rw [show R ++ (BlkT w.heap.size (hO ⟨0, 0, 0, 0⟩) :: BlkT (w.heap.size + 1) (hO (bH o)) :: (bL o ++ [WvT 9 1 q l.length (strV l)])) = (R ++ [BlkT w.heap.size (hO ⟨0, 0, 0, 0⟩)]) ++ (BlkT (w.heap.size + 1) (hO (bH o)) :: (bL o ++ [WvT 9 1 q l.length (strV l)])) by simp] at h0
            refine ((h0.blk4 (.int .i64 (h.number : Nat)) (.int .i64 (h.half : Nat)) (.int .i64 (h.snap : Nat)) (.int .i64 (h.log : Nat))).alloc_ (hO h)).sub (B := bL o) ?_
            simp only [List.append_assoc, List.singleton_append, List.cons_append, List.nil_append]
            refine List.Perm.append_left _ (List.Perm.cons _ (List.Perm.cons _ ?_))
            exact List.perm_append_comm
          have H4 := hid H4
          clear hgt hC
          go_wp2_with fail
          go_roundw
          case rel => exact ⟨k + 1, some ⟨h, s, l, q⟩, by omega, by go_num, hnew, rfl, rfl, rfl, H4.out⟩
          case measure => simp [intOf]; omega
        · have b1 : decide ((bH o).number < h.number) = false := decide_eq_false hgt
          have hnew := hid (hC.out.old HFd.out hgt)
          have H4 : St W (w3.alloc (hO h)) (R ++ (BlkT w.heap.size (hO ⟨0, 0, 0, 0⟩) :: BlkT (w.heap.size + 1) (hO (bH o)) :: bL o)) := by
            have h0 := HS3.out.alloc_ (hO h)
            rw [show R ++ (BlkT w.heap.size (hO ⟨0, 0, 0, 0⟩) :: BlkT (w.heap.size + 1) (hO (bH o)) :: (bL o ++ [WvT 9 1 q l.length (strV l)])) = (R ++ (BlkT w.heap.size (hO ⟨0, 0, 0, 0⟩) :: BlkT (w.heap.size + 1) (hO (bH o)) :: bL o)) ++ [WvT 9 1 q l.length (strV l)] by simp] at h0
            exact h0.drop
          have H4 := hid H4
          clear hgt hC
          go_wp2_with fail
          go_roundw
          case rel => exact ⟨k + 1, o, by omega, by go_num, hnew, rfl, rfl, rfl, H4.out⟩
          case measure => simp [intOf]; omega
      · obtain rfl : ok = false := by simpa using hok
        obtain ⟨rfl, hno, rfl⟩ : p = .slice none 0 0 ∧ (∀ g s l, ¬ Fd ss k g s l) ∧ T = [] := by
          rcases HRES.out with ⟨l, q, h1, _⟩ | ⟨_, h1⟩
          · cases h1
          · exact h1
        have hnew := hid (hC.out.no hno)
        have H4 := HS3.out.alloc_ (hO h)
        rw [List.append_nil] at H4
        have H4 := hid H4
        clear hC HRES hno hok
        go_wp2_with fail
        go_roundw
        case rel => exact ⟨k + 1, o, by omega, by go_num, hnew, rfl, rfl, rfl, H4.out⟩
        case measure => simp [intOf]; omega
    · obtain rfl : k = 2 := by omega
      have hb6 := hS.blk (R.length + 1) (b := w.heap.size + 1) (by rw [get_behind]; rfl)
      have hb2 := hS.blk (R.length + 0) (b := w.heap.size) (by rw [get_behind]; rfl)
      have k0 := cell_blk (i := 0) hb6 rfl
      have k1 := cell_blk (i := 1) hb6 rfl
      have k2 := cell_blk (i := 2) hb6 rfl
      have k3 := cell_blk (i := 3) hb6 rfl
      have z0 := cell_blk (i := 0) hb2 rfl
      have z1 := cell_blk (i := 1) hb2 rfl
      have z2 := cell_blk (i := 2) hb2 rfl
      have z3 := cell_blk (i := 3) hb2 rfl
      have y0 := free_blk (i := 0) hb2
      have y1 := free_blk (i := 1) hb2
      have y2 := free_blk (i := 2) hb2
      have y3 := free_blk (i := 3) hb2
      have hl2 := lt_of_block hb2
      have H4 := hid (hS.blk4 (.int .i64 ((bH o).number : Nat)) (.int .i64 ((bH o).half : Nat)) (.int .i64 ((bH o).snap : Nat)) (.int .i64 ((bH o).log : Nat)))
      clear hS hb6 hb2 HS
      go_wp2_with fail
      obtain ⟨wz, hwz⟩ : ∃ wz : World, ((((wr.setCell ⟨w.heap.size, 0, none⟩ (.int .i64 ((bH o).number : Nat))).setCell ⟨w.heap.size, 1, none⟩ (.int .i64 ((bH o).half : Nat))).setCell ⟨w.heap.size, 2, none⟩ (.int .i64 ((bH o).snap : Nat))).setCell ⟨w.heap.size, 3, none⟩ (.int .i64 ((bH o).log : Nat))) = wz := ⟨_, rfl⟩
      have H5 := H4.out
      rw [hwz] at H5 ⊢
      have hbz := H5.blk (R.length + 0) (b := w.heap.size) (by rw [get_behind]; rfl)
      have x0 := cell_blk (i := 0) hbz rfl
      have x1 := cell_blk (i := 1) hbz rfl
      have x2 := cell_blk (i := 2) hbz rfl
      have x3 := cell_blk (i := 3) hbz rfl
      refine bodyPost_ret (v := .tuple #[.agg #[.int .i64 ((bH o).number : Nat), .int .i64 ((bH o).half : Nat), .int .i64 ((bH o).snap : Nat), .int .i64 ((bH o).log : Nat)], .string (bS o), bP o, .bool (bA o)]) (by simp [results, Tryz.results24, go_sem, x0, x1, x2, x3]) rfl ?_
      cases o with
      | none => exact .inr ⟨hC.out, rfl, H5.drop⟩
      | some x =>
        refine .inl ⟨x.h, x.s, x.l, hC.out.cnt, x.q, rfl, ?_⟩
        refine H5.sub (B := [BlkT w.heap.size (hO x.h), BlkT (w.heap.size + 1) (hO x.h)]) ?_
        rw [List.append_assoc]
        exact List.Perm.append_left _ (perm3 _ _ _)
end
end Go.Proofs.YthghnlgojmedgaaGreat

/-
  The log, as plain data: a row of raw writes on a disk; Append, Snapshot. Of no program.
-/
namespace Go.Proofs.YthghnlgojmedgaaGreat
set_option linter.unusedVariables false
set_option linter.unusedSimpArgs false

/-- Raw writes, up to the one that is cut. -/
def runP (d : DS) : List (Nat × ByteArray) → Int × DS
  | [] => (0, d)
  | x :: ws => if (d.write x.1 x.2).1 = 0 then runP (d.write x.1 x.2).2 ws else (2, (d.write x.1 x.2).2)
/-- Writes that may be. -/
def okW (n : Nat) (ws : List (Nat × ByteArray)) : Prop := ∀ x, x ∈ ws → x.1 < n ∧ x.2.size = 128
/-- The disk behind the first k of them. -/
def behindN (d : DS) (ws : List (Nat × ByteArray)) (k : Nat) : DS :=
  { d with sec := setAll d.sec (ws.take k), raw := d.raw ++ (ws.take k).map (fun x => ((x.1 : Int), x.2)), armed := max 0 (d.armed - (ws.take k).length) }
theorem write_ok {d : DS} {p : Nat} {c : ByteArray} (hd : d.dead = false) (hp : p < d.sec.length) (hc : c.size = 128) (ha : d.armed ≠ 1) :
    d.write p c = (0, { d with armed := max 0 (d.armed - 1), sec := d.sec.set p c, raw := d.raw ++ [((p : Int), c)] }) := by
  unfold DS.write
  rw [if_neg (by rw [hd]; simp), if_neg (by omega), if_neg (by omega), if_neg ha]
  simp
theorem write_cut {d : DS} {p : Nat} {c : ByteArray} (hd : d.dead = false) (hp : p < d.sec.length) (hc : c.size = 128) (ha : d.armed = 1) :
    d.write p c = (2, { d with sec := d.sec.set p (cutB c (sAt d.sec p) d.bytes.toNat), dead := true }) := by
  unfold DS.write
  rw [if_neg (by rw [hd]; simp), if_neg (by omega), if_neg (by omega), if_pos ha]
  simp
theorem behind_zero (d : DS) (ws : List (Nat × ByteArray)) (h : 0 ≤ d.armed) : behindN d ws 0 = d := by
  unfold behindN
  cases d
  simp only [List.take_zero, setAll, List.foldl_nil, List.map_nil, List.append_nil, List.length_nil]
  simp only at h
  congr 1
  simp; omega
theorem behind_cons (d : DS) (x : Nat × ByteArray) (ws : List (Nat × ByteArray)) (k : Nat) (h : 0 ≤ d.armed) :
    behindN { d with armed := max 0 (d.armed - 1), sec := d.sec.set x.1 x.2, raw := d.raw ++ [((x.1 : Int), x.2)] } ws k = behindN d (x :: ws) (k + 1) := by
  unfold behindN
  simp only [List.take_succ_cons, List.map_cons, List.append_assoc, List.singleton_append, List.length_cons]
  congr 1
  omega
/-- How a row of writes ends. -/
theorem run_to : ∀ (ws : List (Nat × ByteArray)) (d : DS), d.dead = false → 0 ≤ d.armed → okW d.sec.length ws →
    (d.armed = 0 ∨ (ws.length : Int) < d.armed) ∧ runP d ws = (0, behindN d ws ws.length) ∨
    ∃ k, k < ws.length ∧ d.armed = k + 1 ∧ ∃ x, ws[k]? = some x ∧ runP d ws = (2, { behindN d ws k with sec := (behindN d ws k).sec.set x.1 (cutB x.2 (sAt (behindN d ws k).sec x.1) d.bytes.toNat), dead := true, armed := 1 })
  | [], d, hd, ha, hw => by
    left
    refine ⟨by simp; omega, ?_⟩
    rw [show ([] : List (Nat × ByteArray)).length = 0 from rfl, behind_zero d _ ha]; rfl
  | x :: ws, d, hd, ha, hw => by
    obtain ⟨hp, hc⟩ := hw x (by simp)
    by_cases h1 : d.armed = 1
    · right
      refine ⟨0, by simp, by omega, x, rfl, ?_⟩
      rw [behind_zero d _ ha]
      unfold runP
      rw [write_cut hd hp hc h1, if_neg (by simp)]
      cases d
      simp only at h1
      subst h1
      rfl
    · have e := write_ok hd hp hc h1
      have ih := run_to ws (d.write x.1 x.2).2 (by rw [e]; exact hd) (by rw [e]; simp; omega) (by rw [e]; intro y hy; simp only [List.length_set]; exact hw y (by simp [hy]))
      rw [e] at ih
      have er : runP d (x :: ws) = runP { d with armed := max 0 (d.armed - 1), sec := d.sec.set x.1 x.2, raw := d.raw ++ [((x.1 : Int), x.2)] } ws := by
        rw [runP, e, if_pos rfl]
      rw [er]
      rcases ih with ⟨h2, h3⟩ | ⟨k, h2, h3, y, h4, h5⟩
      · left
        refine ⟨?_, ?_⟩
        · simp only [List.length_cons] at *; omega
        · rw [h3, behind_cons d x ws ws.length ha]; rfl
      · right
        refine ⟨k + 1, by simp; omega, ?_, y, by simpa using h4, ?_⟩
        · simp only at h3; omega
        · rw [h5, behind_cons d x ws k ha]

end Go.Proofs.YthghnlgojmedgaaGreat

/-
  wal: the log as a thing; Open, Format, Records, Dead, Clone, gone.
-/
namespace Go.Proofs.YthghnlgojmedgaaGreat
open Go.RowKit
set_option linter.unusedVariables false
set_option linter.unusedSimpArgs false

/-- A log: the head that counts, how many records, is it dead. -/
structure WS where
  h : WH
  n : Nat
  dead : Bool
abbrev wlO (D : Nat) (x : WS) : Obj := .cells #[.pointer (some ⟨D, 0, none⟩), .int .i64 (x.h.number : Nat), .int .i64 (x.h.half : Nat), .int .i64 (x.h.snap : Nat), .int .i64 (x.h.log : Nat), .int .i64 (x.n : Nat), .bool x.dead] 88
def WlT (B D : Nat) (x : WS) : Thing := BlkT B (wlO D x)

section
variable {W : Base} {w : World} {R : List Thing}

theorem st_wdead (H : St W w R) (i : Nat) {B D : Nat} {x : WS} (hi : R[i]? = some (WlT B D x)) :
    Calls Tryz.prog 61 #[.pointer (some ⟨B, 0, none⟩)] w fun e w' => e = .returned (.bool x.dead) ∧ St W w' R := by
  have c6 := cell_blk (i := 6) (H.blk i hi) rfl
  have HH := hid H
  clear H
  go_enter Tryz.func61, Tryz.ntmps61
  go_wp2_with fail
  go_ret
  exact ⟨rfl, HH.out⟩
theorem st_wrecords (H : St W w R) (i : Nat) {B D : Nat} {x : WS} (hi : R[i]? = some (WlT B D x)) :
    Calls Tryz.prog 60 #[.pointer (some ⟨B, 0, none⟩)] w fun e w' => e = .returned (.int .i64 (x.n : Nat)) ∧ St W w' R := by
  have c6 := cell_blk (i := 5) (H.blk i hi) rfl
  have HH := hid H
  clear H
  go_enter Tryz.func60, Tryz.ntmps60
  go_wp2_with fail
  go_ret
  exact ⟨rfl, HH.out⟩
theorem st_wclone (H : St W w R) (i : Nat) {B D : Nat} {x : WS} (hi : R[i]? = some (WlT B D x)) (C : Nat) :
    Calls Tryz.prog 57 #[.pointer (some ⟨B, 0, none⟩), .pointer (some ⟨C, 0, none⟩)] w fun e w' => ∃ N, e = .returned (.pointer (some ⟨N, 0, none⟩)) ∧ St W w' (R ++ [WlT N C x]) := by
  have hb := H.blk i hi
  have c0 := cell_blk (i := 0) hb rfl
  have c1 := cell_blk (i := 1) hb rfl
  have c2 := cell_blk (i := 2) hb rfl
  have c3 := cell_blk (i := 3) hb rfl
  have c4 := cell_blk (i := 4) hb rfl
  have c5 := cell_blk (i := 5) hb rfl
  have c6 := cell_blk (i := 6) hb rfl
  have HH := hid H
  clear H hb
  go_enter Tryz.func57, Tryz.ntmps57
  go_wp2_with fail
  go_ret
  exact ⟨_, rfl, HH.out.alloc _⟩
theorem st_gone (H : St W w R) (i j : Nat) {B D : Nat} {x : WS} {d : DS} (hi : R[i]? = some (WlT B D x)) (hj : R[j]? = some (DkT D d)) :
    Calls Tryz.prog 40 #[.pointer (some ⟨B, 0, none⟩)] w fun e w' => e = .returned (.bool (x.dead || d.dead)) ∧ St W w' (R.set i (WlT B D { x with dead := x.dead || d.dead })) := by
  have hb := H.blk i hi
  have c0 := cell_blk (i := 0) hb rfl
  have c6 := cell_blk (i := 6) hb rfl
  have f6 := free_blk (i := 6) hb
  have hl := lt_of_block hb
  have hdd : Calls Tryz.prog 22 #[.pointer (some ⟨D, 0, none⟩)] w fun e w' => e = .returned (.bool d.dead) ∧ w = w' := by
    obtain ⟨F, hF⟩ := H.dk j hj
    exact disk_dead w F D d hF
  have HD := hid hdd
  have HS := hid (fun b => H.setBlk i hi 6 (.bool b))
  clear H hb hdd
  cases hx : x.dead
  · rw [hx] at c6
    go_enter Tryz.func40, Tryz.ntmps40
    go_wp2_with fail
    refine HD.out.mono ?_
    rintro e w1 ⟨rfl, rfl⟩
    go_wp2_with fail
    go_ret
    refine ⟨by simp, ?_⟩
    have h := HS.out d.dead
    simpa [hx, WlT] using h
  · rw [hx] at c6
    go_enter Tryz.func40, Tryz.ntmps40
    go_wp2_with fail
    go_ret
    refine ⟨by simp, ?_⟩
    have h := HS.out true
    simpa [hx, WlT] using h

/-- What Open comes to. -/
def OpTo (W : Base) (R : List Thing) (D : Nat) (d : DS) (e : Ending) (w' : World) : Prop :=
  (∃ c : Int, (d.dead = true ∧ c = 2 ∨ d.dead = false ∧ roomN d.sec.length = 0 ∧ c = 91 ∨ d.dead = false ∧ roomN d.sec.length ≠ 0 ∧ (∀ a, a < 2 → ∀ h s l, ¬ Fd d.sec a h s l) ∧ c = 90) ∧
    e = .returned (.tuple #[.pointer none, .string ⟨#[]⟩, .slice none 0 0, .int .i64 c]) ∧ St W w' R) ∨
  (d.dead = false ∧ roomN d.sec.length ≠ 0 ∧ ∃ h s l, Cnt d.sec h s l ∧ ∃ B p, e = .returned (.tuple #[.pointer (some ⟨B, 0, none⟩), .string s, .slice p l.length l.length, .int .i64 0]) ∧
    St W w' (R ++ [WvT 9 1 p l.length (strV l), WlT B D ⟨h, l.length, false⟩]))
set_option maxHeartbeats 1600000 in
theorem st_wopen (H : St W w R) (i : Nat) {D : Nat} {d : DS} (hi : R[i]? = some (DkT D d)) (hw : d.wf) :
    Calls Tryz.prog 19 #[.pointer (some ⟨D, 0, none⟩)] w (OpTo W R D d) := by
  have hdd : Calls Tryz.prog 22 #[.pointer (some ⟨D, 0, none⟩)] w fun e w' => e = .returned (.bool d.dead) ∧ w = w' := by
    obtain ⟨F, hF⟩ := H.dk i hi
    exact disk_dead w F D d hF
  have hrm : Calls Tryz.prog 23 #[.pointer (some ⟨D, 0, none⟩)] w fun e w'' => e = .returned (.int .i64 (roomN d.sec.length : Nat)) ∧ w = w'' := by
    obtain ⟨F, hF⟩ := H.dk i hi
    exact wal_room w F D d hF hw
  have HD := hid hdd
  have HM := hid hrm
  have HH := hid H
  have HC := hid (fun hd hf => st_wcounts H i hi hw hd hf)
  clear H hdd hrm hi
  by_cases hd : d.dead = true
  · rw [hd] at HD
    have hd := hid hd
    go_enter Tryz.func19, Tryz.ntmps19
    go_wp2_with fail
    refine HD.out.mono ?_
    rintro e w1 ⟨rfl, rfl⟩
    go_wp2_with fail
    refine bodyPost_ret (v := .tuple #[.pointer none, .string ⟨#[]⟩, .slice none 0 0, .int .i64 2]) (by simp [results, Tryz.results19, go_sem]) rfl ?_
    exact .inl ⟨2, .inl ⟨hd.out, rfl⟩, rfl, HH.out⟩
  have hd : d.dead = false := by simpa using hd
  rw [hd] at HD
  by_cases hf : roomN d.sec.length = 0
  · rw [hf] at HM
    have hd := hid hd
    have hf := hid hf
    go_enter Tryz.func19, Tryz.ntmps19
    go_wp2_with fail
    refine HD.out.mono ?_
    rintro e w1 ⟨rfl, rfl⟩
    go_wp2_with fail
    refine HM.out.mono ?_
    rintro e w1 ⟨rfl, rfl⟩
    go_wp2_with fail
    refine bodyPost_ret (v := .tuple #[.pointer none, .string ⟨#[]⟩, .slice none 0 0, .int .i64 91]) (by simp [results, Tryz.results19, go_sem]) rfl ?_
    exact .inl ⟨91, .inr (.inl ⟨hd.out, hf.out, rfl⟩), rfl, HH.out⟩
  have HN := hid (HC.out hd hf)
  have b1 : ((roomN d.sec.length : Int) == 0) = false := by rw [beq_eq_false_iff_ne]; omega
  have HX := hid (And.intro hd hf)
  clear HC hd hf
  go_enter Tryz.func19, Tryz.ntmps19
  go_wp2_with fail
  refine HD.out.mono ?_
  rintro e w1 ⟨rfl, rfl⟩
  go_wp2_with fail
  refine HM.out.mono ?_
  rintro e w1 ⟨rfl, rfl⟩
  go_wp2_with fail
  refine HN.out.mono ?_
  rintro e w2 (⟨h, s, l, hc, p, rfl, hS⟩ | ⟨hno, rfl, hS⟩)
  · have HS := hid hS
    have HCN := hid hc
    clear hS hc
    unfold hV
    go_wp2_with fail
    refine bodyPost_ret (v := .tuple #[.pointer (some ⟨(w2.alloc (hO h)).heap.size, 0, none⟩), .string s, .slice p l.length l.length, .int .i64 0]) (by simp [results, Tryz.results19, go_sem]) rfl ?_
    have h1 := (HS.out.alloc_ (hO h)).alloc (wlO D ⟨h, l.length, false⟩)
    rw [List.append_assoc] at h1
    exact .inr ⟨HX.out.1, HX.out.2, h, s, l, HCN.out, _, p, rfl, h1⟩
  · have HS := hid hS
    have HNO := hid hno
    clear hS hno
    unfold hV
    go_wp2_with fail
    refine bodyPost_ret (v := .tuple #[.pointer none, .string ⟨#[]⟩, .slice none 0 0, .int .i64 90]) (by simp [results, Tryz.results19, go_sem]) rfl ?_
    exact .inl ⟨90, .inr (.inr ⟨HX.out.1, HX.out.2, HNO.out, rfl⟩), rfl, HS.out.alloc_ _⟩
end
end Go.Proofs.YthghnlgojmedgaaGreat

/-
  wal: write.
-/
namespace Go.Proofs.YthghnlgojmedgaaGreat
open Go.RowKit
set_option linter.unusedVariables false
set_option linter.unusedSimpArgs false

section
variable {W : Base} {w : World} {R : List Thing}

abbrev bW (B : Nat) : Obj := .cells #[.pointer (some ⟨B, 0, none⟩)] 39
abbrev bE (c : Int) : Obj := .cells #[.int .i64 c] 24
/-- The deferred function: the power went. -/
theorem w_undone {eb wb hb B : Nat} {c : Int} (hc : c ≠ 0) (h0 : w.cell? ⟨eb, 0, none⟩ = some (.int .i64 c)) (h1 : w.cell? ⟨wb, 0, none⟩ = some (.pointer (some ⟨B, 0, none⟩))) {v : Value} (h2 : w.cell? ⟨B, 6, none⟩ = some v) (h3 : w.frozen? ⟨B, 6, none⟩ = false) :
    CallsD Tryz.prog 62 #[.pointer (some ⟨eb, 0, none⟩), .pointer (some ⟨wb, 0, none⟩), .pointer (some ⟨hb, 0, none⟩)] .returning w fun e u' w' => e = .returned (.tuple #[]) ∧ u' = .returning ∧ w' = w.setCell ⟨B, 6, none⟩ (.bool true) := by
  have e1 : (c == 0) = false := by rw [beq_eq_false_iff_ne]; exact hc
  have e2 : (c != 0) = true := by rw [bne_iff_ne]; exact hc
  clear hc
  refine callsD_of_wpS Tryz.func62 rfl fun c₀ cs hu => ?_
  simp only [Tryz.ntmps62, List.size_toArray, List.length_cons, List.length_nil, Nat.reduceAdd, Nat.reduceSub, Array.replicate_succ,
     Array.replicate_zero, List.push_toArray, List.append_toArray, List.nil_append, List.cons_append]
  refine wpS_of_wp ?_
  go_wp2_with fail
  exact ⟨rfl, .returning, by rw [← hu], _, results_none rfl _ _ _, rfl, rfl, rfl⟩
theorem w_done {eb wb hb B : Nat} (h0 : w.cell? ⟨eb, 0, none⟩ = some (.int .i64 0)) (h1 : w.cell? ⟨wb, 0, none⟩ = some (.pointer (some ⟨B, 0, none⟩))) (h : WH)
    (h2 : w.cell? ⟨hb, 0, none⟩ = some (.int .i64 (h.number : Nat))) (h3 : w.cell? ⟨hb, 1, none⟩ = some (.int .i64 (h.half : Nat))) (h4 : w.cell? ⟨hb, 2, none⟩ = some (.int .i64 (h.snap : Nat))) (h5 : w.cell? ⟨hb, 3, none⟩ = some (.int .i64 (h.log : Nat)))
    {v1 v2 v3 v4 : Value} (k1 : w.cell? ⟨B, 1, none⟩ = some v1) (k2 : w.cell? ⟨B, 2, none⟩ = some v2) (k3 : w.cell? ⟨B, 3, none⟩ = some v3) (k4 : w.cell? ⟨B, 4, none⟩ = some v4) (hf : ∀ i, w.frozen? ⟨B, i, none⟩ = false) :
    CallsD Tryz.prog 62 #[.pointer (some ⟨eb, 0, none⟩), .pointer (some ⟨wb, 0, none⟩), .pointer (some ⟨hb, 0, none⟩)] .returning w fun e u' w' => e = .returned (.tuple #[]) ∧ u' = .returning ∧
      w' = (((w.setCell ⟨B, 1, none⟩ (.int .i64 (h.number : Nat))).setCell ⟨B, 2, none⟩ (.int .i64 (h.half : Nat))).setCell ⟨B, 3, none⟩ (.int .i64 (h.snap : Nat))).setCell ⟨B, 4, none⟩ (.int .i64 (h.log : Nat)) := by
  have f1 := hf 1
  have f2 := hf 2
  have f3 := hf 3
  have f4 := hf 4
  clear hf
  refine callsD_of_wpS Tryz.func62 rfl fun c₀ cs hu => ?_
  simp only [Tryz.ntmps62, List.size_toArray, List.length_cons, List.length_nil, Nat.reduceAdd, Nat.reduceSub, Array.replicate_succ,
     Array.replicate_zero, List.push_toArray, List.append_toArray, List.nil_append, List.cons_append]
  refine wpS_of_wp ?_
  go_wp2_with fail
  exact ⟨rfl, .returning, by rw [← hu], _, results_none rfl _ _ _, rfl, rfl, rfl⟩
end
end Go.Proofs.YthghnlgojmedgaaGreat

/-
  wal: write: the pages, as plain data.
-/
namespace Go.Proofs.YthghnlgojmedgaaGreat
open Go.RowKit
set_option linter.unusedVariables false
set_option linter.unusedSimpArgs false

/-- How many bytes the first k pages take. -/
def cK (at_ n k : Nat) : Nat := if k = 0 then 0 else min n (128 * k - at_ % 128)
def fK (at_ k : Nat) : Nat := if k = 0 then at_ % 128 else 0
theorem cK_zero (at_ n : Nat) : cK at_ n 0 = 0 := rfl
theorem cK_facts {at_ k : Nat} {s : List UInt8} (h : k < pN at_ s) : cK at_ s.length k < s.length ∧ (at_ + cK at_ s.length k) / 128 = at_ / 128 + k ∧ (at_ + cK at_ s.length k) % 128 = fK at_ k ∧ fK at_ k < 128 ∧
    cK at_ s.length (k + 1) = cK at_ s.length k + min (s.length - cK at_ s.length k) (128 - fK at_ k) := by
  unfold pN at h
  split at h
  · omega
  · unfold cK fK
    by_cases hk : k = 0
    · subst hk
      simp only [if_pos]
      rw [if_neg (by omega)]
      omega
    · rw [if_neg hk, if_neg hk, if_neg (by omega)]
      omega
theorem cK_end {at_ : Nat} {s : List UInt8} : cK at_ s.length (pN at_ s) = s.length := by
  unfold cK pN
  by_cases h : s.length = 0
  · rw [if_pos h, if_pos rfl]; exact h.symm
  · rw [if_neg h, if_neg (by omega)]
    omega
theorem cK_le {at_ n k : Nat} : cK at_ n k ≤ n := by unfold cK; split <;> omega

/-- A page's bytes, as the code puts them together. -/
theorem pC_eq {ss : List ByteArray} {half at_ k : Nat} {s : List UInt8} (P : Pl ss half at_ s) (h : k < pN at_ s) :
    pC ss half at_ s k = pad ((bl (sAt ss (2 + half * (ss.length / 2 - 1) + at_ / 128 + k))).take (fK at_ k) ++ (s.drop (cK at_ s.length k)).take (128 - fK at_ k)) := by
  unfold pC pT
  have hsz := P.sz (2 + half * (ss.length / 2 - 1) + at_ / 128) (by have := P.fine h; omega)
  have hl : ((bl (sAt ss (2 + half * (ss.length / 2 - 1) + at_ / 128))).take (at_ % 128)).length = at_ % 128 := by rw [List.length_take, bl_len, hsz]; omega
  congr 1
  unfold cK fK
  by_cases hk : k = 0
  · subst hk
    simp only [if_pos, Nat.mul_zero, List.drop_zero, Nat.add_zero]
    rw [List.take_append, hl, List.take_of_length_le (by omega)]
  · have hn : 128 * k - at_ % 128 < s.length := by
      unfold pN at h
      split at h
      · omega
      · omega
    rw [if_neg hk, if_neg hk, List.take_zero, List.nil_append, List.drop_append, hl, List.drop_of_length_le (by omega), List.nil_append, Nat.min_eq_right (by omega)]

theorem bl_zero_of {o : ByteArray} (h : o.size = 0) : bl o = [] := List.length_eq_zero_iff.1 h
theorem sget_pad {l : List UInt8} {q : Nat} (h : l.length ≤ 128) (hq : q < 128) : sget (pad l) q = ((l.getD q 0).toNat : Int) := by
  have e : sget (pad l) q = ((gB (pad l) q).toNat : Int) := rfl
  rw [e]
  by_cases h1 : q < l.length
  · rw [gB_pad h1]
  · have e2 : l.getD q 0 = 0 := by rw [List.getD_eq_getElem?_getD, List.getElem?_eq_none (by omega)]; rfl
    have e3 : gB (pad l) q = 0 := by
      unfold gB pad
      rw [bl_mk, List.getD_eq_getElem?_getD, List.getElem?_append_right (by omega), List.getElem?_replicate]
      split <;> rfl
    rw [e2, e3]
theorem page_cells {cur0 : Array Value} {o u : ByteArray} {f n : Nat} (h0 : cur0.size = 128) (hz : ∀ j, j < 128 → cur0[j]? = some (.int .u8 0)) (hf : o.size = f) (hf1 : f < 128) (hn : n = min u.size (128 - f)) :
    (laid (laid cur0 0 o f) f u n).size = 128 ∧ ∀ q, q < 128 → (laid (laid cur0 0 o f) f u n)[q]? = some (.int .u8 (sget (pad (bl o ++ (bl u).take (128 - f))) q)) := by
  have hs1 : (laid cur0 0 o f).size = 128 := by rw [laid_size (by omega) (by omega), h0]
  have hlen : (bl o ++ (bl u).take (128 - f)).length ≤ 128 := by rw [List.length_append, List.length_take, bl_len, bl_len]; omega
  refine ⟨by rw [laid_size (by omega) (by omega), hs1], fun q hq => ?_⟩
  rw [laid_at (by omega) (by omega), laid_at (by omega) (by omega), sget_pad hlen hq]
  by_cases h1 : f ≤ q ∧ q < f + n
  · rw [if_pos h1]
    congr 3
    rw [List.getD_eq_getElem?_getD, List.getElem?_append_right (by rw [bl_len]; omega), bl_len, hf, List.getElem?_take, if_pos (by omega), ← List.getD_eq_getElem?_getD]
    rfl
  · rw [if_neg h1]
    by_cases h2 : 0 ≤ q ∧ q < 0 + f
    · rw [if_pos h2]
      congr 3
      rw [List.getD_eq_getElem?_getD, List.getElem?_append_left (by rw [bl_len]; omega), ← List.getD_eq_getElem?_getD]
      rfl
    · have e2 : (bl o ++ (bl u).take (128 - f)).getD q 0 = 0 := by
        rw [List.getD_eq_getElem?_getD, List.getElem?_eq_none (by rw [List.length_append, List.length_take, bl_len, bl_len]; omega)]; rfl
      rw [if_neg h2, hz q hq, e2]
      rfl

/-- Where a row of raw writes stands behind its first k ones: dk. -/
structure RunI (d dk : DS) (ws : List (Nat × ByteArray)) (p0 k : Nat) : Prop where
  run : runP d ws = runP dk (ws.drop k)
  wf : dk.wf
  alive : dk.dead = false
  len : dk.sec.length = d.sec.length
  old : ∀ q, p0 + k ≤ q → sAt dk.sec q = sAt d.sec q
  raw : dk.raw.length ≤ d.raw.length + k
theorem RunI.zero {d : DS} (hw : d.wf) (hd : d.dead = false) (ws : List (Nat × ByteArray)) (p0 : Nat) : RunI d d ws p0 0 :=
  ⟨by rw [List.drop_zero], hw, hd, rfl, fun _ _ => rfl, Nat.le_refl _⟩
theorem write_dead {d : DS} {p : Nat} {c : ByteArray} (hd : d.dead = false) (hp : p < d.sec.length) (hc : c.size = 128) : (d.write p c).1 = 0 ∧ (d.write p c).2.dead = false ∧ (d.write p c).2.sec = d.sec.set p c ∨ (d.write p c).1 = 2 ∧ (d.write p c).2.dead = true := by
  by_cases ha : d.armed = 1
  · right; rw [write_cut hd hp hc ha]; exact ⟨rfl, rfl⟩
  · left; rw [write_ok hd hp hc ha]; exact ⟨rfl, hd, rfl⟩
theorem RunI.step {d dk : DS} {ws : List (Nat × ByteArray)} {p0 k : Nat} {c : ByteArray} (h : RunI d dk ws p0 k) (hx : ws[k]? = some (p0 + k, c)) (hp : p0 + k < d.sec.length) (hc : c.size = 128) :
    (dk.write ((p0 + k : Nat) : Int) c).1 = 0 ∧ RunI d (dk.write ((p0 + k : Nat) : Int) c).2 ws p0 (k + 1) ∨ (dk.write ((p0 + k : Nat) : Int) c).1 = 2 ∧ runP d ws = (2, (dk.write ((p0 + k : Nat) : Int) c).2) := by
  have hk : k < ws.length := (List.getElem?_eq_some_iff.1 hx).1
  have hdr : ws.drop k = (p0 + k, c) :: ws.drop (k + 1) := by
    rw [List.drop_eq_getElem_cons hk]
    congr 1
    exact (List.getElem?_eq_some_iff.1 hx).2
  have hrun := h.run
  rw [hdr, runP] at hrun
  rcases write_dead (d := dk) (p := p0 + k) (c := c) h.alive (by rw [h.len]; exact hp) hc with ⟨h1, h2, h3⟩ | ⟨h1, h2⟩
  · left
    refine ⟨h1, ?_, write_wf h.wf _ _, h2, by rw [h3, List.length_set, h.len], fun q hq => ?_, ?_⟩
    · rw [hrun, if_pos h1]
    · rw [h3, sAt_set' _ _ _ _ (by rw [h.len]; exact hp), if_neg (by omega)]
      exact h.old q (by omega)
    · have := (write_len dk ((p0 + k : Nat) : Int) c).2
      have := h.raw
      omega
  · right
    refine ⟨h1, ?_⟩
    rw [hrun, if_neg (by rw [h1]; decide)]

end Go.Proofs.YthghnlgojmedgaaGreat

/-
  wal: write: the walk.
-/
namespace Go.Proofs.YthghnlgojmedgaaGreat
open Go.RowKit
set_option linter.unusedVariables false
set_option linter.unusedSimpArgs false

def strN : Value → Nat | .string b => b.size | _ => 0
section
variable {W : Base} {w : World} {R : List Thing}

/-- The raw writes of a call. -/
def callW (d : DS) (at_ : Nat) (s : ByteArray) (h : WH) : List (Nat × ByteArray) := plan d.sec h.half at_ (bl s) ++ [(h.number % 2, secB h)]
def p0W (d : DS) (at_ : Nat) (h : WH) : Nat := 2 + h.half * (d.sec.length / 2 - 1) + at_ / 128
/-- What write comes to. -/
def WrTo (W : Base) (R : List Thing) (i j B D : Nat) (x : WS) (d : DS) (at_ : Nat) (s : ByteArray) (h : WH) (e : Ending) (w' : World) : Prop :=
  (runP d (callW d at_ s h)).1 = 0 ∧ e = .returned (.int .i64 0) ∧ St W w' ((R.set i (WlT B D { x with h := h })).set j (DkT D (runP d (callW d at_ s h)).2)) ∨
  (runP d (callW d at_ s h)).1 = 2 ∧ e = .returned (.int .i64 2) ∧ St W w' ((R.set i (WlT B D { x with dead := true })).set j (DkT D (runP d (callW d at_ s h)).2))

theorem St.setRowB {g : Nat} {cur cur' : Array Value} {t : TypeId} (H : St W w (R ++ [BlkT g (.cells cur t)])) : St W (w.setRow g cur') (R ++ [BlkT g (.cells cur' t)]) := by
  obtain ⟨F, ⟨rfl, h1⟩, h2, h3⟩ := H.at R.length (A := Blk1 g (.cells cur t)) (by simp [BlkT])
  have h := h3 (w.setRow g cur') [g] (Blk1 g (.cells cur' t)) inferInstance ⟨rfl, setRow_heap w g cur cur' t _ h1⟩ ⟨rfl, rfl, rfl, by simp, fun k _ hk => setRow_other w g k _ (fun e => hk (by simp [e]))⟩ (fun x hx => .inl hx)
  simpa [BlkT] using h
theorem pgw {f m ak q : Nat} (hf : f ≤ 1) (hm : m ≤ 512) (ha : ak ≤ 65536) (hq : 2 + f * m + ak / 128 = q) : wrap64 (wrap64 (2 + wrap64 ((wrap64 ((f : Int) * ((m : Int) * 128))).tdiv 128)) + wrap64 ((ak : Int) / 128)) = (q : Int) := by
  rcases (show f = 0 ∨ f = 1 by omega) with rfl | rfl
  · rw [show ((0 : Nat) : Int) * ((m : Int) * 128) = 0 by omega, wv0, IntWalk.wrap64_in ((ak : Int) / 128) (by omega), IntWalk.wrap64_in _ (by omega)]; omega
  · rw [show ((1 : Nat) : Int) * ((m : Int) * 128) = (m : Int) * 128 by omega, wv1 m hm, IntWalk.wrap64_in ((ak : Int) / 128) (by omega), IntWalk.wrap64_in _ (by omega)]; omega

abbrev hdT (b : Nat) (h : WH) : Thing := BlkT b (hO h)
/-- Behind a write that was cut. -/
theorem wEnd2 {T : List Thing} {i j B D b4 b7 b8 : Nat} {x : WS} {d : DS} {h : WH} (H : St W w (R.set j (DkT D d) ++ T)) (hT : T = [BlkT b4 (bW B), hdT b7 h, BlkT b8 (bE 0)]) (hi : R[i]? = some (WlT B D x)) (hij : i ≠ j) (hil : i < R.length) :
    w.cell? ⟨b8, 0, none⟩ = some (.int .i64 0) ∧ w.frozen? ⟨b8, 0, none⟩ = false ∧
    (w.setCell ⟨b8, 0, none⟩ (.int .i64 2)).cell? ⟨b8, 0, none⟩ = some (.int .i64 2) ∧ (w.setCell ⟨b8, 0, none⟩ (.int .i64 2)).cell? ⟨b4, 0, none⟩ = some (.pointer (some ⟨B, 0, none⟩)) ∧
    (w.setCell ⟨b8, 0, none⟩ (.int .i64 2)).cell? ⟨B, 6, none⟩ = some (.bool x.dead) ∧ (w.setCell ⟨b8, 0, none⟩ (.int .i64 2)).frozen? ⟨B, 6, none⟩ = false ∧
    ((w.setCell ⟨b8, 0, none⟩ (.int .i64 2)).setCell ⟨B, 6, none⟩ (.bool true)).cell? ⟨b8, 0, none⟩ = some (.int .i64 2) ∧
    St W ((w.setCell ⟨b8, 0, none⟩ (.int .i64 2)).setCell ⟨B, 6, none⟩ (.bool true)) ((R.set i (WlT B D { x with dead := true })).set j (DkT D d)) := by
  subst hT
  have hTT : ∀ q, (R.set j (DkT D d) ++ [BlkT b4 (bW B), hdT b7 h, BlkT b8 (bE 0)])[R.length + q]? = [BlkT b4 (bW B), hdT b7 h, BlkT b8 (bE 0)][q]? := fun q => by
    have h := get_behind (R.set j (DkT D d)) [BlkT b4 (bW B), hdT b7 h, BlkT b8 (bE 0)] q
    rwa [List.length_set] at h
  have h8 := H.blk (R.length + 2) (b := b8) (o := bE 0) (by rw [hTT]; rfl)
  have H1 := H.setBlk (R.length + 2) (b := b8) (by rw [hTT]; rfl) 0 (.int .i64 2)
  have e1 : (R.set j (DkT D d) ++ [BlkT b4 (bW B), hdT b7 h, BlkT b8 (bE 0)]).set (R.length + 2) (BlkT b8 (bE 2)) = R.set j (DkT D d) ++ [BlkT b4 (bW B), hdT b7 h, BlkT b8 (bE 2)] := by
    rw [List.set_append_right _ _ (by rw [List.length_set]; omega), List.length_set, Nat.add_sub_cancel_left]; rfl
  have H1 : St W (w.setCell ⟨b8, 0, none⟩ (.int .i64 2)) (R.set j (DkT D d) ++ [BlkT b4 (bW B), hdT b7 h, BlkT b8 (bE 2)]) := by rw [← e1]; exact H1
  have hTT2 : ∀ q, (R.set j (DkT D d) ++ [BlkT b4 (bW B), hdT b7 h, BlkT b8 (bE 2)])[R.length + q]? = [BlkT b4 (bW B), hdT b7 h, BlkT b8 (bE 2)][q]? := fun q => by
    have h := get_behind (R.set j (DkT D d)) [BlkT b4 (bW B), hdT b7 h, BlkT b8 (bE 2)] q
    rwa [List.length_set] at h
  have hii : (R.set j (DkT D d) ++ [BlkT b4 (bW B), hdT b7 h, BlkT b8 (bE 2)])[i]? = some (WlT B D x) := by
    rw [List.getElem?_append_left (by rw [List.length_set]; exact hil), List.getElem?_set_ne (Ne.symm hij)]; exact hi
  have k8 := H1.blk (R.length + 2) (b := b8) (o := bE 2) (by rw [hTT2]; rfl)
  have k4 := H1.blk (R.length + 0) (b := b4) (o := bW B) (by rw [hTT2]; rfl)
  have kB := H1.blk i hii
  have H2 := H1.setBlk i hii 6 (.bool true)
  have e2 : (R.set j (DkT D d) ++ [BlkT b4 (bW B), hdT b7 h, BlkT b8 (bE 2)]).set i (WlT B D { x with dead := true }) = (R.set i (WlT B D { x with dead := true })).set j (DkT D d) ++ [BlkT b4 (bW B), hdT b7 h, BlkT b8 (bE 2)] := by
    rw [List.set_append_left _ _ (by rw [List.length_set]; exact hil), List.set_comm _ _ (Ne.symm hij)]
  have H2 : St W ((w.setCell ⟨b8, 0, none⟩ (.int .i64 2)).setCell ⟨B, 6, none⟩ (.bool true)) ((R.set i (WlT B D { x with dead := true })).set j (DkT D d) ++ [BlkT b4 (bW B), hdT b7 h, BlkT b8 (bE 2)]) := by rw [← e2]; exact H2
  have m8 := H2.blk (R.length + 2) (b := b8) (o := bE 2) (by
    have h := get_behind ((R.set i (WlT B D { x with dead := true })).set j (DkT D d)) [BlkT b4 (bW B), hdT b7 h, BlkT b8 (bE 2)] 2
    rw [List.length_set, List.length_set] at h
    rw [h]; rfl)
  exact ⟨cell_blk h8 rfl, free_blk h8, cell_blk k8 rfl, cell_blk k4 rfl, cell_blk kB rfl, free_blk kB, cell_blk m8 rfl, H2.drop⟩

/-- Behind all writes. -/
theorem wEnd0 {T : List Thing} {i j B D b4 b7 b8 : Nat} {x : WS} {d : DS} {h : WH} (H : St W w (R.set j (DkT D d) ++ T)) (hT : T = [BlkT b4 (bW B), hdT b7 h, BlkT b8 (bE 0)]) (hi : R[i]? = some (WlT B D x)) (hij : i ≠ j) (hil : i < R.length) :
    w.cell? ⟨b8, 0, none⟩ = some (.int .i64 0) ∧ w.frozen? ⟨b8, 0, none⟩ = false ∧
    (w.setCell ⟨b8, 0, none⟩ (.int .i64 0)).cell? ⟨b8, 0, none⟩ = some (.int .i64 0) ∧ (w.setCell ⟨b8, 0, none⟩ (.int .i64 0)).cell? ⟨b4, 0, none⟩ = some (.pointer (some ⟨B, 0, none⟩)) ∧
    (w.setCell ⟨b8, 0, none⟩ (.int .i64 0)).cell? ⟨b7, 0, none⟩ = some (.int .i64 (h.number : Nat)) ∧ (w.setCell ⟨b8, 0, none⟩ (.int .i64 0)).cell? ⟨b7, 1, none⟩ = some (.int .i64 (h.half : Nat)) ∧
    (w.setCell ⟨b8, 0, none⟩ (.int .i64 0)).cell? ⟨b7, 2, none⟩ = some (.int .i64 (h.snap : Nat)) ∧ (w.setCell ⟨b8, 0, none⟩ (.int .i64 0)).cell? ⟨b7, 3, none⟩ = some (.int .i64 (h.log : Nat)) ∧
    (w.setCell ⟨b8, 0, none⟩ (.int .i64 0)).cell? ⟨B, 1, none⟩ = some (.int .i64 (x.h.number : Nat)) ∧ (w.setCell ⟨b8, 0, none⟩ (.int .i64 0)).cell? ⟨B, 2, none⟩ = some (.int .i64 (x.h.half : Nat)) ∧
    (w.setCell ⟨b8, 0, none⟩ (.int .i64 0)).cell? ⟨B, 3, none⟩ = some (.int .i64 (x.h.snap : Nat)) ∧ (w.setCell ⟨b8, 0, none⟩ (.int .i64 0)).cell? ⟨B, 4, none⟩ = some (.int .i64 (x.h.log : Nat)) ∧
    (∀ q, (w.setCell ⟨b8, 0, none⟩ (.int .i64 0)).frozen? ⟨B, q, none⟩ = false) ∧
    (((((w.setCell ⟨b8, 0, none⟩ (.int .i64 0)).setCell ⟨B, 1, none⟩ (.int .i64 (h.number : Nat))).setCell ⟨B, 2, none⟩ (.int .i64 (h.half : Nat))).setCell ⟨B, 3, none⟩ (.int .i64 (h.snap : Nat))).setCell ⟨B, 4, none⟩ (.int .i64 (h.log : Nat))).cell? ⟨b8, 0, none⟩ = some (.int .i64 0) ∧
    St W (((((w.setCell ⟨b8, 0, none⟩ (.int .i64 0)).setCell ⟨B, 1, none⟩ (.int .i64 (h.number : Nat))).setCell ⟨B, 2, none⟩ (.int .i64 (h.half : Nat))).setCell ⟨B, 3, none⟩ (.int .i64 (h.snap : Nat))).setCell ⟨B, 4, none⟩ (.int .i64 (h.log : Nat))) ((R.set i (WlT B D { x with h := h })).set j (DkT D d)) := by
  subst hT
  have hTT : ∀ q, (R.set j (DkT D d) ++ [BlkT b4 (bW B), hdT b7 h, BlkT b8 (bE 0)])[R.length + q]? = [BlkT b4 (bW B), hdT b7 h, BlkT b8 (bE 0)][q]? := fun q => by
    have h := get_behind (R.set j (DkT D d)) [BlkT b4 (bW B), hdT b7 h, BlkT b8 (bE 0)] q
    rwa [List.length_set] at h
  have h8 := H.blk (R.length + 2) (b := b8) (o := bE 0) (by rw [hTT]; rfl)
  have H1 := H.setBlk (R.length + 2) (b := b8) (by rw [hTT]; rfl) 0 (.int .i64 0)
  have e1 : (R.set j (DkT D d) ++ [BlkT b4 (bW B), hdT b7 h, BlkT b8 (bE 0)]).set (R.length + 2) (BlkT b8 (bE 0)) = R.set j (DkT D d) ++ [BlkT b4 (bW B), hdT b7 h, BlkT b8 (bE 0)] := by
    rw [List.set_append_right _ _ (by rw [List.length_set]; omega), List.length_set, Nat.add_sub_cancel_left]; rfl
  have H1 : St W (w.setCell ⟨b8, 0, none⟩ (.int .i64 0)) (R.set j (DkT D d) ++ [BlkT b4 (bW B), hdT b7 h, BlkT b8 (bE 0)]) := by
    have h2 : St W (w.setCell ⟨b8, 0, none⟩ (.int .i64 0)) ((R.set j (DkT D d) ++ [BlkT b4 (bW B), hdT b7 h, BlkT b8 (bE 0)]).set (R.length + 2) (BlkT b8 (bE 0))) := H1
    rw [e1] at h2; exact h2
  obtain ⟨w1, hw1⟩ : ∃ w1 : World, w.setCell ⟨b8, 0, none⟩ (.int .i64 0) = w1 := ⟨_, rfl⟩
  rw [hw1] at H1 ⊢
  have hgi : ∀ A : Thing, ((R.set j (DkT D d) ++ [BlkT b4 (bW B), hdT b7 h, BlkT b8 (bE 0)]).set i A)[i]? = some A := fun A => by
    rw [List.getElem?_set_self (by rw [List.length_append, List.length_set]; omega)]
  have hii : (R.set j (DkT D d) ++ [BlkT b4 (bW B), hdT b7 h, BlkT b8 (bE 0)])[i]? = some (WlT B D x) := by
    rw [List.getElem?_append_left (by rw [List.length_set]; exact hil), List.getElem?_set_ne (Ne.symm hij)]; exact hi
  have k8 := H1.blk (R.length + 2) (b := b8) (o := bE 0) (by rw [hTT]; rfl)
  have k7 := H1.blk (R.length + 1) (b := b7) (o := hO h) (by rw [hTT]; rfl)
  have k4 := H1.blk (R.length + 0) (b := b4) (o := bW B) (by rw [hTT]; rfl)
  have kB := H1.blk i hii
  have G1 := H1.setBlk i hii 1 (.int .i64 (h.number : Nat))
  have G2 := G1.setBlk i (hgi _) 2 (.int .i64 (h.half : Nat))
  have G3 := G2.setBlk i (by rw [List.set_set]; exact hgi _) 3 (.int .i64 (h.snap : Nat))
  have G4 := G3.setBlk i (by rw [List.set_set, List.set_set]; exact hgi _) 4 (.int .i64 (h.log : Nat))
  rw [List.set_set, List.set_set, List.set_set] at G4
  have e2 : (R.set j (DkT D d) ++ [BlkT b4 (bW B), hdT b7 h, BlkT b8 (bE 0)]).set i (WlT B D { x with h := h }) = (R.set i (WlT B D { x with h := h })).set j (DkT D d) ++ [BlkT b4 (bW B), hdT b7 h, BlkT b8 (bE 0)] := by
    rw [List.set_append_left _ _ (by rw [List.length_set]; exact hil), List.set_comm _ _ (Ne.symm hij)]
  have H2 : St W ((((w1.setCell ⟨B, 1, none⟩ (.int .i64 (h.number : Nat))).setCell ⟨B, 2, none⟩ (.int .i64 (h.half : Nat))).setCell ⟨B, 3, none⟩ (.int .i64 (h.snap : Nat))).setCell ⟨B, 4, none⟩ (.int .i64 (h.log : Nat))) ((R.set i (WlT B D { x with h := h })).set j (DkT D d) ++ [BlkT b4 (bW B), hdT b7 h, BlkT b8 (bE 0)]) := by rw [← e2]; exact G4
  have m8 := H2.blk (R.length + 2) (b := b8) (o := bE 0) (by
    have h := get_behind ((R.set i (WlT B D { x with h := h })).set j (DkT D d)) [BlkT b4 (bW B), hdT b7 h, BlkT b8 (bE 0)] 2
    rw [List.length_set, List.length_set] at h
    rw [h]; rfl)
  exact ⟨cell_blk h8 rfl, free_blk h8, cell_blk k8 rfl, cell_blk k4 rfl, cell_blk k7 rfl, cell_blk k7 rfl, cell_blk k7 rfl, cell_blk k7 rfl, cell_blk kB rfl, cell_blk kB rfl, cell_blk kB rfl, cell_blk kB rfl, fun q => free_blk kB, cell_blk m8 rfl, H2.drop⟩

set_option maxHeartbeats 800000 in
set_option maxRecDepth 100000 in
theorem st_wwrite (H : St W w R) (i j : Nat) {B D : Nat} {x : WS} {d : DS} (hi : R[i]? = some (WlT B D x)) (hj : R[j]? = some (DkT D d)) (hij : i ≠ j) (hw : d.wf) (hd : d.dead = false) (at_ : Nat) (s : ByteArray) (h : WH)
    (P : Pl d.sec h.half at_ (bl s)) (hn : h.number ≤ 9223372036854775807) (hsn : h.snap ≤ 9223372036854775807) (hlg : h.log ≤ 9223372036854775807) (hraw : (d.raw.length + 2000) * 24 ≤ 140737488355328) :
    Calls Tryz.prog 41 #[.pointer (some ⟨B, 0, none⟩), .int .i64 at_, .string s, hV h] w (WrTo W R i j B D x d at_ s h) := by
  obtain ⟨n, f, sn, lg⟩ := h
  have hil := lt_of_get hi
  have hjl := lt_of_get hj
  have hfit := P.fit
  have hhalf := P.half1
  have hroom := P.room
  simp only at hhalf hroom
  rw [bl_len] at hroom
  obtain ⟨m, hm⟩ : ∃ m, d.sec.length / 2 - 1 = m := ⟨_, rfl⟩
  rw [hm] at hroom
  have hm1 : m ≤ 512 := by omega
  have hrmN : roomN d.sec.length = m * 128 := by unfold roomN; rw [if_neg (by omega), hm]
  obtain ⟨p0, hp0⟩ : ∃ p0, p0W d at_ ⟨n, f, sn, lg⟩ = p0 := ⟨_, rfl⟩
  have hp0' : 2 + f * m + at_ / 128 = p0 := by rw [← hp0, ← hm]; rfl
  obtain ⟨ws, hws⟩ : ∃ ws, callW d at_ s ⟨n, f, sn, lg⟩ = ws := ⟨_, rfl⟩
  obtain ⟨T, hT⟩ : ∃ T : List Thing, T = [BlkT w.heap.size (bW B), hdT (w.heap.size + 1) ⟨n, f, sn, lg⟩, BlkT (w.heap.size + 1 + 1) (bE 0)] := ⟨_, rfl⟩
  have hS0 : St W (((w.alloc (bW B)).alloc (hO ⟨n, f, sn, lg⟩)).alloc (bE 0)) (R ++ T) := by
    have h := ((H.alloc (bW B)).allocAt (hO ⟨n, f, sn, lg⟩) (w.heap.size + 1) (by simp)).allocAt (bE 0) (w.heap.size + 1 + 1) (by simp)
    rw [List.append_assoc, List.append_assoc] at h
    rw [hT]; exact h
  have HS0 := hid hS0
  have HRUN0 := hid (RunI.zero hw hd ws p0)
  have HP := hid P
  have HX := hid (And.intro hi (And.intro hj hp0))
  have HR := hid (And.intro hrmN (And.intro hm hp0'))
  have HWS := hid hws
  have hmf : ∀ (fn : Fn) (first cap : Array Value) (w : World), (Instr.makeFunc fn first cap).run Tryz.prog w = .ok (.func fn first cap) w := fun _ _ _ _ => rfl
  unfold WrTo
  rw [hws]
  have HBD := hid (And.intro hhalf (And.intro hroom (And.intro hm1 (And.intro hn (And.intro hsn hlg)))))
  clear H hw hd P hi hj hp0 hrmN hm hp0' hws hfit
  unfold hV
  go_enter_defers Tryz.func41, Tryz.ntmps41
  go_wp2_with fail
  obtain ⟨wx, hwx⟩ : ∃ wx : World, ((w.alloc (bW B)).alloc (hO ⟨n, f, sn, lg⟩)).alloc (bE 0) = wx := ⟨_, rfl⟩
  rw [hwx] at HS0
  rw [show ((w.alloc (.cells #[.pointer (some ⟨B, 0, none⟩)] 39)).alloc (.cells #[.int .i64 n, .int .i64 f, .int .i64 sn, .int .i64 lg] 62)).alloc (.cells #[.int .i64 0] 24) = wx from hwx]
  clear hwx
  generalize w.heap.size + 1 + 1 = b8 at hT ⊢
  generalize w.heap.size + 1 = b7 at hT ⊢
  generalize w.heap.size = b4 at hT ⊢
  have HT := hid hT
  have HG := hid (And.intro hil (And.intro hjl (And.intro hij hraw)))
  clear hT hil hjl hij hraw hmf
  go_loopw [1, 2] (fun av sv wr => ∃ (k : Nat) (dk : DS) (ak : Nat) (u : ByteArray), k ≤ pN at_ (bl s) ∧ av = .int .i64 ak ∧ sv = .string u ∧ Hid (ak = at_ + cK at_ s.size k ∧ u = s.extract (cK at_ s.size k) s.size) ∧ Hid (RunI d dk ws p0 k) ∧ St W wr (R.set j (DkT D dk) ++ T)) (fun _ sv _ => strN sv)
  case atStart =>
    refine ⟨0, d, at_, s, Nat.zero_le _, rfl, rfl, hid ⟨rfl, ?_⟩, HRUN0, ?_⟩
    · rw [cK_zero, ByteArray.extract_zero_size]
    · rw [things_set_self HX.out.2.1]; exact HS0.out
  case round =>
    obtain ⟨k, dk, ak, u, hk, rfl, rfl, hu, hI, hS⟩ := hrel
    have hiT : (R.set j (DkT D dk) ++ T)[i]? = some (WlT B D x) := by rw [List.getElem?_append_left (by simpa using HG.out.1), List.getElem?_set_ne (Ne.symm HG.out.2.2.1)]; exact HX.out.1
    have hjT : ∀ d', (R.set j (DkT D d') ++ T)[j]? = some (DkT D d') := fun d' => by rw [List.getElem?_append_left (by simpa using HG.out.2.1), List.getElem?_set_self HG.out.2.1]
    have hTT : ∀ (d' : DS) (q : Nat), (R.set j (DkT D d') ++ T)[R.length + q]? = T[q]? := fun d' q => by
      have h := get_behind (R.set j (DkT D d')) T q
      rwa [List.length_set] at h
    have hcl : ∀ (w' : World) (d' : DS), St W w' (R.set j (DkT D d') ++ T) → w'.cell? ⟨b4, 0, none⟩ = some (.pointer (some ⟨B, 0, none⟩)) ∧ w'.cell? ⟨B, 0, none⟩ = some (.pointer (some ⟨D, 0, none⟩)) ∧
        w'.cell? ⟨b7, 0, none⟩ = some (.int .i64 n) ∧ w'.cell? ⟨b7, 1, none⟩ = some (.int .i64 f) ∧ w'.cell? ⟨b7, 2, none⟩ = some (.int .i64 sn) ∧ w'.cell? ⟨b7, 3, none⟩ = some (.int .i64 lg) ∧ w'.heap[b8]? = some (.cells #[.int .i64 0] 24 (0, 0)) ∧ w'.heap[B]? = some (.cells #[.pointer (some ⟨D, 0, none⟩), .int .i64 (x.h.number : Nat), .int .i64 (x.h.half : Nat), .int .i64 (x.h.snap : Nat), .int .i64 (x.h.log : Nat), .int .i64 (x.n : Nat), .bool x.dead] 88 (0, 0)) := fun w' d' h => by
      have h4 := h.blk (R.length + 0) (b := b4) (o := bW B) (by rw [hTT, HT.out]; rfl)
      have h7 := h.blk (R.length + 1) (b := b7) (o := hO ⟨n, f, sn, lg⟩) (by rw [hTT, HT.out]; rfl)
      have h8 := h.blk (R.length + 2) (b := b8) (o := bE 0) (by rw [hTT, HT.out]; rfl)
      have hB := h.blk i (b := B) (o := wlO D x) (by rw [List.getElem?_append_left (by simpa using HG.out.1), List.getElem?_set_ne (Ne.symm HG.out.2.2.1)]; exact HX.out.1)
      exact ⟨cell_blk h4 rfl, cell_blk hB rfl, cell_blk h7 rfl, cell_blk h7 rfl, cell_blk h7 rfl, cell_blk h7 rfl, h8, hB⟩
    have HCL := hid hcl
    have hrm : ∀ w', St W w' (R.set j (DkT D dk) ++ T) → Calls Tryz.prog 23 #[.pointer (some ⟨D, 0, none⟩)] w' fun e w'' => e = .returned (.int .i64 (m * 128 : Nat)) ∧ w' = w'' := fun w' h => by
      obtain ⟨F, hF⟩ := h.dk j (hjT dk)
      rw [← HR.out.1, ← hI.out.len]
      exact wal_room w' F D dk hF hI.out.wf
    have HRM := hid hrm
    have HJ := hid hjT
    have HTT := hid hTT
    clear hcl hrm hiT hjT hTT
    by_cases hlt : k < pN at_ (bl s)
    · have hf := cK_facts hlt
      rw [bl_len] at hf
      obtain ⟨c, hc⟩ : ∃ c, cK at_ s.size k = c := ⟨_, rfl⟩
      obtain ⟨fk, hfk⟩ : ∃ fk, fK at_ k = fk := ⟨_, rfl⟩
      rw [hc, hfk] at hf
      rw [hc] at hu
      obtain ⟨f1, f2, f3, f4, f5⟩ := hf
      have hus : u.size = s.size - c := by rw [hu.out.2, ByteArray.size_extract]; omega
      have hup : (0 : Int) < (u.size : Int) := by omega
      have hak : ak = at_ + c := hu.out.1
      have hak1 : ak / 128 = at_ / 128 + k := by rw [hak]; exact f2
      have hak2 : ak % 128 = fk := by rw [hak]; exact f3
      have hakb : ak ≤ 65536 := by omega
      have HU := hid hu.out.2
      have HF := hid (And.intro f1 (And.intro f5 (And.intro hc hfk)))
      have HS := hid hS
      have hpg : wrap64 (wrap64 (2 + wrap64 ((wrap64 ((f : Int) * ((m : Int) * 128))).tdiv 128)) + wrap64 ((ak : Int) / 128)) = ((p0 + k : Nat) : Int) := pgw HBD.out.1 HBD.out.2.2.1 hakb (by have := HR.out.2.2; omega)
      have HAK := hid (And.intro hak (And.intro hak1 (And.intro hak2 hpg)))
      have HUS := hid hus
      have HLT := hid hlt
      have HKK := hid (And.intro hk f4)
      clear f1 f2 f3 f4 f5 hc hfk hu hS hak hak1 hak2 hpg hus hlt hk
      clear hakb
      go_upto_region 3 with (fail)
      go_cut [9] from 16 to 70 (fun s9 wx => s9 = .int .i64 ((p0 + k : Nat) : Int) ∧ ∃ nq, wx = wr.drewN nq)
      case first =>
        obtain ⟨c4, cB, c70, c71, _⟩ := HCL.out _ _ HS.out
        go_quiet ((go_at_call 23; exact quiet_mine (HRM.out _ (HS.out.drewN _))))
        go_wp2_with fail
        go_meet
        exact ⟨congrArg (Value.int .i64) HAK.out.2.2.2, _, rfl⟩
      obtain ⟨rfl, nq, rfl⟩ := hcut
      have hS2 := HS.out.drewN nq
      generalize wr.drewN nq = wy at hS2 ⊢
      have hpf : p0 + k < dk.sec.length := by
        have h := HP.out.fine HLT.out
        rw [hI.out.len, ← HR.out.2.2, ← HR.out.2.1]
        exact h
      have hrd : Calls Tryz.prog 63 #[.pointer (some ⟨D, 0, none⟩), .int .i64 ((p0 + k : Nat) : Int)] wy fun e w' => e = .returned (.tuple #[.string (sAt dk.sec (p0 + k)), .int .i64 0]) ∧ wy = w' := by
        obtain ⟨F, hF⟩ := hS2.dk j (HJ.out dk)
        exact disk_read_yes wy F D dk (p0 + k) hF hI.out.wf hI.out.alive hpf
      obtain ⟨c4, cB, _⟩ := HCL.out _ _ hS2
      obtain ⟨pg, hpg⟩ : ∃ pg, p0 + k = pg := ⟨_, rfl⟩
      rw [hpg] at hrd hpf ⊢
      obtain ⟨old, hold⟩ : ∃ old, sAt dk.sec pg = old := ⟨_, rfl⟩
      rw [hold] at hrd
      have hos : old.size = 128 := by rw [← hold]; exact hI.out.wf.sz pg hpf
      have HRD := hid hrd
      have HS2 := hid hS2
      have HPG := hid (And.intro hpg (And.intro hpf (And.intro hold hos)))
      clear hrd hS2 hpf hpg hold hos HS
      go_wp2_with fail
      refine HRD.out.mono ?_
      rintro e w3 ⟨rfl, rfl⟩
      obtain ⟨i0, hi0, hz0, hz1, hz2⟩ := info_parts info_u8
      have HI := hid (And.intro hi0 (And.intro hz0 (And.intro hz1 hz2)))
      clear hi0 hz0 hz1 hz2
      go_wp2_with (at_make; refine wpList_make_full _ rfl (.const (.int .i64 128)) (.const (.int .i64 128)) 71 rfl 0 5 i0 (.int .u8 0) 1 Tryz.underlying71 HI.out.1 HI.out.2.1 HI.out.2.2.1 .i64 .i64 128 128 128 rfl rfl rfl rfl ?qa ?qb ?qc ?_)
      case qa => rw [HI.out.2.2.2]; omega
      case qb => decide
      case qc => omega
      intro w4 hown hgrow
      have hF4 : Fr [] wy w4 := (Fr.of_grown hgrow).mono (by simp)
      obtain ⟨cur0, hb0, hs0, hz0⟩ := made_blk hown
      have hg4 : wy.heap.size ≤ wy.heap.size := Nat.le_refl _
      have hS4 : St W w4 ((R.set j (DkT D dk) ++ T) ++ [BlkT wy.heap.size (.cells cur0 5)]) :=
        HS2.out.new (A := Blk1 wy.heap.size (.cells cur0 5)) (F := [wy.heap.size]) hF4 inferInstance ⟨rfl, hb0⟩ (by simp)
      have HS4 := hid hS4
      have HC0 := hid (And.intro hs0 hz0)
      generalize wy.heap.size = g at HS4 hb0 ⊢
      have HB0 := hid hb0
      clear hown hgrow hF4 hb0 hs0 hz0 hg4 hS4 c4 cB HRD HS2
      obtain ⟨o1, ho1⟩ : ∃ o1, old.extract 0 fk = o1 := ⟨_, rfl⟩
      have ho1s : o1.size = fk := by rw [← ho1, ByteArray.size_extract]; have := HPG.out.2.2.2; have := HKK.out.2; omega
      have HO1 := hid (And.intro ho1 ho1s)
      have hfm : (ak : Int) % 128 = (fk : Int) := by have := HAK.out.2.2.1; omega
      have hf1 : (fk : Int) ≤ (old.size : Int) := by have := HPG.out.2.2.2; have := HKK.out.2; omega
      have hf2 : (fk : Int) ≤ 128 := by have := HKK.out.2; omega
      clear ho1s
      have HK1 := hid (show Nat.min o1.size 128 = fk by rw [HO1.out.2]; have := HKK.out.2; exact Nat.min_eq_left (by omega))
      have HK2 := hid (show 0 + fk ≤ cur0.size by rw [HC0.out.1]; have := HKK.out.2; omega)
      go_wp2_with (refine wpList_copy_str rfl (.tmp 46) (.tmp 49) 71 9 rfl 5 Tryz.underlying71 size_u8 g 0 128 128 fk o1 cur0 5 rfl rfl HB0.out HK1.out HK2.out ?_)
      have hS5 := HS4.out.setRowB (cur' := laid cur0 0 o1 fk)
      have hb5 : (w4.setRow g (laid cur0 0 o1 fk)).heap[g]? = some (.cells (laid cur0 0 o1 fk) 5 (0, 0)) := setRow_heap w4 g cur0 _ _ _ HB0.out
      obtain ⟨cur1, hc1⟩ : ∃ c, laid cur0 0 o1 fk = c := ⟨_, rfl⟩
      have hs1 : cur1.size = 128 := by rw [← hc1, laid_size (by rw [HO1.out.2]; exact Nat.le_refl _) (by rw [HC0.out.1]; have := HKK.out.2; omega)]; exact HC0.out.1
      rw [hc1] at hS5 hb5 ⊢
      generalize w4.setRow g cur1 = w5 at hS5 hb5 ⊢
      have HS5 := hid hS5
      have HB5 := hid hb5
      have HC1 := hid (And.intro hc1 hs1)
      clear hS5 hb5 HS4 HB0 hc1 hs1 HK1 HK2
      obtain ⟨nn, hnn⟩ : ∃ nn, min u.size (128 - fk) = nn := ⟨_, rfl⟩
      have HK3 := hid (show Nat.min u.size (128 - fk) = nn from hnn)
      have HK4 := hid (show fk + nn ≤ cur1.size by rw [HC1.out.2]; have := HKK.out.2; omega)
      have hcp := run_copy_str (P := Tryz.prog) w5 71 9 3 5 g fk (128 - fk) (128 - fk) nn u cur1 5 Tryz.underlying71 size_u8 HB5.out HK3.out HK4.out
      have hS6 := HS5.out.setRowB (cur' := laid cur1 fk u nn)
      have hb6 : (w5.setRow g (laid cur1 fk u nn)).heap[g]? = some (.cells (laid cur1 fk u nn) 5 (0, 0)) := setRow_heap w5 g cur1 _ _ _ HB5.out
      obtain ⟨pc, hpc⟩ : ∃ pc, pC d.sec f at_ (bl s) k = pc := ⟨_, rfl⟩
      have hpcs : pc.size = 128 := by rw [← hpc]; exact pC_size _ _ _ _ _
      have hcells : ∀ q, q < 128 → (laid cur1 fk u nn)[q]? = some (.int .u8 (sget pc q)) := by
        have h := (page_cells (cur0 := cur0) (o := o1) (u := u) (f := fk) (n := nn) HC0.out.1 HC0.out.2 HO1.out.2 HKK.out.2 hnn.symm).2
        rw [HC1.out.1] at h
        have e : pc = pad (bl o1 ++ (bl u).take (128 - fk)) := by
          rw [← hpc, pC_eq HP.out HLT.out]
          simp only [bl_len, HF.out.2.2.1, HF.out.2.2.2]
          congr 1
          have ho : bl o1 = (bl old).take fk := by rw [← HO1.out.1, extract_bl, List.drop_zero]
          have hu2 : bl u = (bl s).drop c := by rw [HU.out, extract_bl, show s.size = (bl s).length from rfl, List.take_length]
          have hol : old = sAt d.sec (2 + f * (d.sec.length / 2 - 1) + at_ / 128 + k) := by
            rw [← HPG.out.2.2.1, ← HPG.out.1, hI.out.old _ (Nat.le_refl _), ← HR.out.2.2, ← HR.out.2.1]
          rw [ho, hu2, hol]
        rw [e]; exact h
      obtain ⟨cur2, hc2⟩ : ∃ cc, laid cur1 fk u nn = cc := ⟨_, rfl⟩
      rw [hc2] at hS6 hb6 hcells hcp
      generalize w5.setRow g cur2 = w6 at hS6 hb6 hcp
      have hcv : ∀ wx : World, wx.heap[g]? = some (.cells cur2 5 (0, 0)) → (convert 71 9 (.slice (some ⟨g, 0, none⟩) 128 128)).run Tryz.prog wx = .ok (.string pc) wx := fun wx hx =>
        run_text wx _ _ 5 g 0 128 128 pc Tryz.underlying71 Tryz.underlying5 Tryz.underlying9 hpcs (fun q hq => by rw [Nat.zero_add]; exact cell_blk hx (hcells q hq))
      have hstep := hI.out.step (c := pc) (k := k) (by
        rw [← HWS.out]
        unfold callW
        rw [List.getElem?_append_left (by rw [plan_len]; exact HLT.out), plan_get _ _ _ _ HLT.out, ← hpc, ← HR.out.2.2, ← HR.out.2.1]) (by
        have h := HPG.out.2.1; rw [hI.out.len] at h; rw [HPG.out.1]; exact h) hpcs
      rw [HPG.out.1] at hstep
      have hwr : ∀ w', St W w' ((R.set j (DkT D dk) ++ T) ++ [BlkT g (.cells cur2 5)]) → Calls Tryz.prog 25 #[.pointer (some ⟨D, 0, none⟩), .int .i64 (pg : Nat), .string pc] w' fun e w'' => e = .returned (.int .i64 (dk.write pg pc).1) ∧ St W w'' ((R.set j (DkT D (dk.write pg pc).2) ++ T) ++ [BlkT g (.cells cur2 5)]) := fun w' h => by
        have hjj : ((R.set j (DkT D dk) ++ T) ++ [BlkT g (.cells cur2 5)])[j]? = some (DkT D dk) := by
          rw [List.getElem?_append_left (by rw [List.length_append, List.length_set]; have := HG.out.2.1; omega)]; exact HJ.out dk
        have hraw2 : (dk.raw.length + 1) * 24 ≤ 140737488355328 := by
          have h1 := hI.out.raw
          have h2 := HG.out.2.2.2
          have h3 : k ≤ 1026 := by have := HPG.out.1; have := HPG.out.2.1; have := hI.out.wf.n2; omega
          omega
        refine (st_write h j hjj pg pc hI.out.wf hraw2).mono ?_
        rintro e w'' ⟨he, h2⟩
        refine ⟨he, ?_⟩
        rw [List.set_append_left _ _ (by rw [List.length_append, List.length_set]; have := HG.out.2.1; omega), List.set_append_left _ _ (by rw [List.length_set]; exact HG.out.2.1), List.set_set] at h2
        exact h2
      obtain ⟨z, hz⟩ : ∃ z, (dk.write pg pc).1 = z := ⟨_, rfl⟩
      obtain ⟨d', hd'⟩ : ∃ d', (dk.write pg pc).2 = d' := ⟨_, rfl⟩
      rw [hz, hd'] at hwr hstep
      have HSF := hid (fun (wx : World) (dd : DS) (h : St W wx ((R.set j (DkT D dd) ++ T) ++ [BlkT g (.cells cur2 5)])) => (show (wx.cell? ⟨b4, 0, none⟩ = some (.pointer (some ⟨B, 0, none⟩)) ∧ wx.cell? ⟨B, 0, none⟩ = some (.pointer (some ⟨D, 0, none⟩)) ∧ wx.heap[g]? = some (.cells cur2 5 (0, 0))) from ⟨(HCL.out wx dd h.drop).1, (HCL.out wx dd h.drop).2.1, h.blk ((R.set j (DkT D dd) ++ T).length + 0) (by rw [get_behind]; rfl)⟩))
      have HWR := hid hwr
      have HS6 := hid hS6
      have HST := hid hstep
      have HNN := hid hnn
      clear hwr hS6 hb6 hcells hstep hnn hpc hpcs hc2 hz hd' HS5 HB5 HK3 HK4 HO1 HC0 HC1 ho1
      rw [hcp]
      simp only [Result.andThen]
      rw [Oper.upon_value]
      clear hcp
      go_wp2_with fail
      go_region_held3 (fun wx : World => (wx.cell? ⟨b4, 0, none⟩ = some (.pointer (some ⟨B, 0, none⟩)) ∧ wx.cell? ⟨B, 0, none⟩ = some (.pointer (some ⟨D, 0, none⟩)) ∧ wx.heap[g]? = some (.cells cur2 5 (0, 0)))) ((first | assumption | exact HSF.out _ _ HS6.out.drew)) (first | (go_at_call 25; refine (HWR.out _ HS6.out.drew).mono ?_; rintro e w7 ⟨rfl, hS7⟩; have hNow := HSF.out _ _ hS7))
      clear hNow hcv
      rcases HST.out with ⟨rfl, hRI⟩ | ⟨rfl, hrun⟩
      · have hg1 : (nn : Int) ≤ (u.size : Int) := by have := HNN.out; omega
        have hw9 : IntKind.i64.wrap ((ak : Int) + nn) = (ak : Int) + nn := by
          have h1 := HAK.out.1; have h2 := HF.out.1; have h3 := HBD.out.2.1; have h4 := HNN.out; have h5 := HUS.out; have h6 := HBD.out.2.2.1
          exact IntWalk.i64_in _ (by omega)
        have hu' : u.extract nn u.size = s.extract (cK at_ s.size (k + 1)) s.size := by
          apply bl_inj
          rw [HF.out.2.1, ← HUS.out, HNN.out, extract_bl, extract_bl, show u.size = (bl u).length from rfl, List.take_length, show s.size = (bl s).length from rfl, List.take_length, HU.out, extract_bl, show s.size = (bl s).length from rfl, List.take_length, List.drop_drop]
        have hak' : ak + nn = at_ + cK at_ s.size (k + 1) := by
          have h1 := HAK.out.1; have h2 := HF.out.2.1; have h3 := HUS.out; have h4 := HNN.out
          rw [h2, ← h3, h4]; omega
        have hms : (u.extract nn u.size).size < u.size := by
          rw [ByteArray.size_extract]
          have h1 := HNN.out; have h2 := HKK.out.2; omega
        have HEND := hid (And.intro hu' (And.intro hak' (And.intro hms (hid hRI))))
        have HS8 := hid hS7.drop
        clear hu' hak' hms hRI hS7 hfm hf1 hf2 HST HWR HSF
        go_wp2_with fail
        refine ⟨⟨k + 1, d', ak + nn, u.extract nn u.size, HLT.out, by push_cast; rfl, rfl, hid ⟨HEND.out.2.1, HEND.out.1⟩, HEND.out.2.2.2, HS8.out⟩, ?_⟩
        exact HEND.out.2.2.1
      · have hE := wEnd2 hS7.drop HT.out HX.out.1 HG.out.2.2.1 HG.out.1
        obtain ⟨e1, e2, e3, e4, e5, e6, e7, e8⟩ := hE
        have HE := hid (And.intro e3 (And.intro e4 (And.intro e5 (And.intro e6 (And.intro e7 e8)))))
        have HRN := hid hrun
        clear e3 e4 e5 e6 e7 e8 hrun hS7 HST HWR HSF
        go_wp2_with fail
        refine leaves_cons (by simp) (run_enter Tryz.func62 (by kernel_rfl) rfl _ _) ?_
        refine (w_undone (c := 2) (by decide) HE.out.1 HE.out.2.1 HE.out.2.2.1 HE.out.2.2.2.1).mono ?_
        rintro e u' w'' ⟨rfl, rfl, rfl⟩
        refine ⟨.int .i64 2, ?_, ?_⟩
        · have y0 := HE.out.2.2.2.2.1
          simp [results, Tryz.results41, go_sem, y0]
        · exact .inr ⟨by rw [HRN.out], rfl, by rw [HRN.out]; exact HE.out.2.2.2.2.2⟩
    · have hkp : k = pN at_ (bl s) := by omega
      have hus : u.size = 0 := by
        rw [hu.out.2, hkp, show s.size = (bl s).length from rfl, cK_end, ByteArray.size_extract, bl_len]; omega
      have hup : ¬ (0 : Int) < (u.size : Int) := by omega
      have hdr : ws.drop k = [(n % 2, secB ⟨n, f, sn, lg⟩)] := by
        rw [← HWS.out]
        unfold callW
        rw [List.drop_left' (by rw [plan_len]; exact hkp.symm)]
      have hrun := hI.out.run
      rw [hdr, runP] at hrun
      have hpl : n % 2 < dk.sec.length := by have := hI.out.wf.n1; have := HP.out.fit; rw [hI.out.len]; omega
      have hsz := secB_size ⟨n, f, sn, lg⟩
      have hwd := write_dead (d := dk) (p := n % 2) (c := secB ⟨n, f, sn, lg⟩) hI.out.alive hpl hsz
      have hm2 : ((n % 2 : Nat) : Int) = (n : Int) % 2 := by omega
      simp only [hm2] at hrun hwd
      obtain ⟨sb, hsb⟩ : ∃ sb, secB ⟨n, f, sn, lg⟩ = sb := ⟨_, rfl⟩
      rw [hsb] at hrun hwd hsz
      have hwr : ∀ w', St W w' (R.set j (DkT D dk) ++ T) → Calls Tryz.prog 25 #[.pointer (some ⟨D, 0, none⟩), .int .i64 ((n : Int) % 2), .string sb] w' fun e w'' => e = .returned (.int .i64 (dk.write ((n : Int) % 2) sb).1) ∧ St W w'' (R.set j (DkT D (dk.write ((n : Int) % 2) sb).2) ++ T) := fun w' h => by
        have hraw2 : (dk.raw.length + 1) * 24 ≤ 140737488355328 := by
          have h1 := hI.out.raw
          have h2 := HG.out.2.2.2
          have h3 : k ≤ 1026 := by
            rw [hkp]
            rcases HP.out.pages with h | h
            · have := HP.out.fit; omega
            · omega
          omega
        refine (st_write h j (HJ.out dk) _ sb hI.out.wf hraw2).mono ?_
        rintro e w'' ⟨he, h2⟩
        refine ⟨he, ?_⟩
        rw [List.set_append_left _ _ (by rw [List.length_set]; exact HG.out.2.1), List.set_set] at h2
        exact h2
      obtain ⟨z, hz⟩ : ∃ z, (dk.write ((n : Int) % 2) sb).1 = z := ⟨_, rfl⟩
      obtain ⟨d', hd'⟩ : ∃ d', (dk.write ((n : Int) % 2) sb).2 = d' := ⟨_, rfl⟩
      rw [hz, hd'] at hwr hrun hwd
      have hres : z = 0 ∧ runP d ws = (0, d') ∨ z = 2 ∧ runP d ws = (2, d') := by
        rcases hwd with ⟨h, _⟩ | ⟨h, _⟩
        · left; refine ⟨h, ?_⟩; rw [hrun, if_pos h]; rfl
        · right; refine ⟨h, ?_⟩; rw [hrun, if_neg (by rw [h]; decide)]
      have HSF := hid (fun (wx : World) (dd : DS) (h : St W wx (R.set j (DkT D dd) ++ T)) => (show (wx.cell? ⟨b4, 0, none⟩ = some (.pointer (some ⟨B, 0, none⟩)) ∧ wx.cell? ⟨B, 0, none⟩ = some (.pointer (some ⟨D, 0, none⟩)) ∧ wx.cell? ⟨b7, 0, none⟩ = some (.int .i64 n) ∧ wx.cell? ⟨b7, 1, none⟩ = some (.int .i64 f) ∧ wx.cell? ⟨b7, 2, none⟩ = some (.int .i64 sn) ∧ wx.cell? ⟨b7, 3, none⟩ = some (.int .i64 lg)) from by
        obtain ⟨a1, a2, a3, a4, a5, a6, _⟩ := HCL.out wx dd h
        exact ⟨a1, a2, a3, a4, a5, a6⟩))
      have hsc : ∀ w : World, Calls Tryz.prog 26 #[.agg #[.int .i64 n, .int .i64 f, .int .i64 sn, .int .i64 lg]] w fun e w' => e = .returned (.string sb) ∧ Fr [] w w' := fun w => by
        rw [← hsb]
        exact wal_sector w ⟨n, f, sn, lg⟩ HBD.out.2.2.2.1 (by have := HBD.out.1; show f ≤ 255; omega) HBD.out.2.2.2.2.1 HBD.out.2.2.2.2.2
      have HSC := hid hsc
      have HWR := hid hwr
      have HRES := hid hres
      have HS := hid hS
      clear hk hus hdr hrun hpl hsz hwd hm2 hsb hwr hz hd' hres hS hlt hkp hu hsc
      go_wp2_with fail
      go_region_held3 (fun wx : World => (wx.cell? ⟨b4, 0, none⟩ = some (.pointer (some ⟨B, 0, none⟩)) ∧ wx.cell? ⟨B, 0, none⟩ = some (.pointer (some ⟨D, 0, none⟩)) ∧ wx.cell? ⟨b7, 0, none⟩ = some (.int .i64 n) ∧ wx.cell? ⟨b7, 1, none⟩ = some (.int .i64 f) ∧ wx.cell? ⟨b7, 2, none⟩ = some (.int .i64 sn) ∧ wx.cell? ⟨b7, 3, none⟩ = some (.int .i64 lg))) ((first | assumption | exact HSF.out _ _ HS.out.drew)) (first | (go_at_call 26; refine (HSC.out _).mono ?_; rintro e wn ⟨rfl, hFn⟩; have hSn := HS.out.drew.same hFn; have hNow := HSF.out _ _ hSn) | (go_at_call 25; refine (HWR.out _ hSn).mono ?_; rintro e w7 ⟨rfl, hS7⟩; have hNow2 := HSF.out _ _ hS7))
      clear hNow hNow2 hSn hFn
      rcases HRES.out with ⟨rfl, hrun⟩ | ⟨rfl, hrun⟩
      · have hE := wEnd0 hS7 HT.out HX.out.1 HG.out.2.2.1 HG.out.1
        obtain ⟨e1, e2, e3, e4, q0, q1, q2, q3, k1, k2, k3, k4, kf, e7, e8⟩ := hE
        have HE := hid (And.intro e3 (And.intro e4 (And.intro q0 (And.intro q1 (And.intro q2 (And.intro q3 (And.intro k1 (And.intro k2 (And.intro k3 (And.intro k4 (And.intro kf (And.intro e7 e8))))))))))))
        have HRN := hid hrun
        clear e3 e4 q0 q1 q2 q3 k1 k2 k3 k4 kf e7 e8 hrun hS7 HSF HWR HSC
        go_wp2_with fail
        refine leaves_cons (by simp) (run_enter Tryz.func62 (by kernel_rfl) rfl _ _) ?_
        obtain ⟨e3, e4, q0, q1, q2, q3, k1, k2, k3, k4, kf, e7, e8⟩ := HE.out
        refine (w_done e3 e4 ⟨n, f, sn, lg⟩ q0 q1 q2 q3 k1 k2 k3 k4 kf).mono ?_
        rintro e u' w'' ⟨rfl, rfl, rfl⟩
        refine ⟨.int .i64 0, ?_, ?_⟩
        · simp [results, Tryz.results41, go_sem, e7]
        · exact .inl ⟨by rw [HRN.out], rfl, by rw [HRN.out]; exact e8⟩
      · have hE := wEnd2 hS7 HT.out HX.out.1 HG.out.2.2.1 HG.out.1
        obtain ⟨e1, e2, e3, e4, e5, e6, e7, e8⟩ := hE
        have HE := hid (And.intro e3 (And.intro e4 (And.intro e5 (And.intro e6 (And.intro e7 e8)))))
        have HRN := hid hrun
        clear e3 e4 e5 e6 e7 e8 hrun hS7 HSF HWR HSC
        go_wp2_with fail
        refine leaves_cons (by simp) (run_enter Tryz.func62 (by kernel_rfl) rfl _ _) ?_
        refine (w_undone (c := 2) (by decide) HE.out.1 HE.out.2.1 HE.out.2.2.1 HE.out.2.2.2.1).mono ?_
        rintro e u' w'' ⟨rfl, rfl, rfl⟩
        refine ⟨.int .i64 2, ?_, ?_⟩
        · have y0 := HE.out.2.2.2.2.1
          simp [results, Tryz.results41, go_sem, y0]
        · exact .inr ⟨by rw [HRN.out], rfl, by rw [HRN.out]; exact HE.out.2.2.2.2.2⟩
end
end Go.Proofs.YthghnlgojmedgaaGreat

/-
  wal: Append, Snapshot, Format.
-/
namespace Go.Proofs.YthghnlgojmedgaaGreat
open Go.RowKit
set_option linter.unusedVariables false
set_option linter.unusedSimpArgs false

/-- What a log and its disk may be. -/
structure LgI (x : WS) (d : DS) : Prop where
  wf : d.wf
  fit : roomN d.sec.length ≠ 0
  half1 : x.h.half ≤ 1
  snap1 : x.h.snap ≤ 17000
  room : x.h.snap + x.h.log ≤ roomN d.sec.length
  num : x.h.number ≤ 1099511627776
  n1 : x.n ≤ 65536

def WS.nxt (x : WS) (m : Nat) : WH := ⟨x.h.number + 1, x.h.half, x.h.snap, x.h.log + m⟩
/-- Append, as plain data. -/
def WS.append (x : WS) (d : DS) (r : ByteArray) : Int × WS × DS :=
  if x.dead = true ∨ d.dead = true then (2, { x with dead := true }, d)
  else if r.size = 0 ∨ 2048 < r.size then (92, x, d)
  else if roomN d.sec.length < x.h.snap + x.h.log + (tf r).size then (93, x, d)
  else if 1099511627776 ≤ x.h.number then (94, x, d)
  else if (runP d (callW d (x.h.snap + x.h.log) (tf r) (x.nxt (tf r).size))).1 = 0 then (0, { x with h := x.nxt (tf r).size, n := x.n + 1 }, (runP d (callW d (x.h.snap + x.h.log) (tf r) (x.nxt (tf r).size))).2)
  else (2, { x with dead := true }, (runP d (callW d (x.h.snap + x.h.log) (tf r) (x.nxt (tf r).size))).2)
/-- Snapshot, as plain data. -/
def WS.snapH (x : WS) (m : Nat) : WH := ⟨x.h.number + 1, 1 - x.h.half, m, 0⟩
def WS.snapshot (x : WS) (d : DS) (s : ByteArray) : Int × WS × DS :=
  if x.dead = true ∨ d.dead = true then (2, { x with dead := true }, d)
  else if 17000 < s.size ∨ roomN d.sec.length < s.size then (92, x, d)
  else if 1099511627776 ≤ x.h.number then (94, x, d)
  else if (runP d (callW d 0 s (x.snapH s.size))).1 = 0 then (0, { x with h := x.snapH s.size, n := 0 }, (runP d (callW d 0 s (x.snapH s.size))).2)
  else (2, { x with dead := true }, (runP d (callW d 0 s (x.snapH s.size))).2)

theorem LgI.pl {x : WS} {d : DS} (L : LgI x d) {half at_ : Nat} {s : ByteArray} (hh : half ≤ 1) (hr : at_ + s.size ≤ roomN d.sec.length) : Pl d.sec half at_ (bl s) := by
  obtain ⟨h1, h2, h3, h4⟩ := roomN_ok L.fit
  exact ⟨⟨h1, h2, h3⟩, L.wf.sz, hh, by rw [bl_len, ← h4]; exact hr⟩

section
variable {W : Base} {w : World} {R : List Thing}

theorem WrTo.z {W : Base} {R : List Thing} {i j B D : Nat} {x : WS} {d : DS} {at_ : Nat} {s : ByteArray} {h : WH} {e : Ending} {w' : World} (k : WrTo W R i j B D x d at_ s h e w') :
    ∃ z : Int, e = .returned (.int .i64 z) ∧ (z = 0 ∧ (runP d (callW d at_ s h)).1 = 0 ∧ St W w' ((R.set i (WlT B D { x with h := h })).set j (DkT D (runP d (callW d at_ s h)).2)) ∨
      z = 2 ∧ (runP d (callW d at_ s h)).1 = 2 ∧ St W w' ((R.set i (WlT B D { x with dead := true })).set j (DkT D (runP d (callW d at_ s h)).2))) := by
  rcases k with ⟨h1, h2, h3⟩ | ⟨h1, h2, h3⟩
  · exact ⟨0, h2, .inl ⟨rfl, h1, h3⟩⟩
  · exact ⟨2, h2, .inr ⟨rfl, h1, h3⟩⟩
theorem set_two {i j : Nat} {A B : Thing} (hi : R[i]? = some A) (hj : R[j]? = some B) : (R.set i A).set j B = R := by rw [things_set_self hi, things_set_self hj]

set_option maxHeartbeats 300000 in
set_option maxRecDepth 100000 in
theorem st_wappend (H : St W w R) (i j : Nat) {B D : Nat} {x : WS} {d : DS} (hi : R[i]? = some (WlT B D x)) (hj : R[j]? = some (DkT D d)) (hij : i ≠ j) (L : LgI x d) (r : ByteArray) (hr47 : r.size ≤ 140737488355328) (hraw : (d.raw.length + 2000) * 24 ≤ 140737488355328) :
    Calls Tryz.prog 21 #[.pointer (some ⟨B, 0, none⟩), .string r] w fun e w' => e = .returned (.int .i64 (x.append d r).1) ∧ St W w' ((R.set i (WlT B D (x.append d r).2.1)).set j (DkT D (x.append d r).2.2)) := by
  have hil := lt_of_get hi
  obtain ⟨t, ht⟩ : ∃ t, tf r = t := ⟨_, rfl⟩
  by_cases hd : x.dead = true ∨ d.dead = true
  · have hres : x.append d r = (2, { x with dead := true }, d) := by unfold WS.append; rw [if_pos hd]
    rw [hres]
    have hdd : (x.dead || d.dead) = true := by rcases hd with h | h <;> simp [h]
    have HIJ0 := hid hij
    clear hd hres hij
    have hb := H.blk i hi
    have c0 := cell_blk (i := 0) hb rfl
    have c1 := cell_blk (i := 1) hb rfl
    have c3 := cell_blk (i := 3) hb rfl
    have c4 := cell_blk (i := 4) hb rfl
    have hsl : IntKind.i64.wrap ((x.h.snap : Int) + x.h.log) = (x.h.snap : Int) + x.h.log := IntWalk.i64_in _ (by have := L.room; have := roomN_le d.sec.length; omega)
    have HH := hid H
    have HP := hid (show ∀ w, Calls Tryz.prog 39 #[.string r] w fun e w' => e = .returned (.string t) ∧ Fr [] w w' from fun w => by rw [← ht]; exact pack_text w r hr47)
    have HL := hid L
    have HTF := hid ht
    have HII := hid (And.intro hi hj)
    clear H hb L ht hi hj hraw hil hr47
    go_enter Tryz.func21, Tryz.ntmps21
    go_wp2_with fail
    go_quiet (fail)
    go_wp2_with fail
    have hS1 := HH.out.drewN nq
    generalize w.drewN nq = w1 at hS1 ⊢
    refine (HP.out _).mono ?_
    rintro e w2 ⟨rfl, hF2⟩
    have HS2 := hid (hS1.same hF2)
    clear hS1 hF2 c0 c1 c3 c4
    go_wp2_with fail
    refine (st_gone HS2.out i j HII.out.1 HII.out.2).mono ?_
    rintro e w3 ⟨rfl, hS3⟩
    rw [hdd] at hS3 ⊢
    have HS3 := hid hS3
    clear hS3 HS2
    go_wp2_with fail
    go_ret
    refine ⟨rfl, ?_⟩
    rw [things_set_self (i := j) (by rw [List.getElem?_set_ne HIJ0.out]; exact HII.out.2)]
    exact HS3.out
  have hdx : x.dead = false := by cases h : x.dead; rfl; exact absurd (.inl h) hd
  have hdd : d.dead = false := by cases h : d.dead; rfl; exact absurd (.inr h) hd
  have hself : ({ x with dead := x.dead || d.dead } : WS) = x := by cases x; simp only at hdx; simp [hdx, hdd]
  have hor : (x.dead || d.dead) = false := by simp [hdx, hdd]
  by_cases hlong : r.size = 0 ∨ 2048 < r.size
  · have hres : x.append d r = (92, x, d) := by unfold WS.append; rw [if_neg hd, if_pos hlong]
    rw [hres]
    have HX := hid (And.intro hself hor)
    clear hd hres hself hor hdx hdd hij
    have b1 : ((r.size : Int) == 0 || decide ((2048 : Int) < r.size)) = true := by
      rcases hlong with h | h
      · simp [h]
      · have : decide ((2048 : Int) < r.size) = true := decide_eq_true (by omega)
        simp [this]
    by_cases hz : r.size = 0
    · have hz1 : ((r.size : Int) == 0) = true := by rw [beq_iff_eq]; omega
      clear hlong b1 hz
      have hb := H.blk i hi
      have c0 := cell_blk (i := 0) hb rfl
      have c1 := cell_blk (i := 1) hb rfl
      have c3 := cell_blk (i := 3) hb rfl
      have c4 := cell_blk (i := 4) hb rfl
      have hsl : IntKind.i64.wrap ((x.h.snap : Int) + x.h.log) = (x.h.snap : Int) + x.h.log := IntWalk.i64_in _ (by have := L.room; have := roomN_le d.sec.length; omega)
      have HH := hid H
      have HP := hid (show ∀ w, Calls Tryz.prog 39 #[.string r] w fun e w' => e = .returned (.string t) ∧ Fr [] w w' from fun w => by rw [← ht]; exact pack_text w r hr47)
      have HL := hid L
      have HTF := hid ht
      have HII := hid (And.intro hi hj)
      clear H hb L ht hi hj hraw hil hr47
      go_enter Tryz.func21, Tryz.ntmps21
      go_wp2_with fail
      go_quiet (fail)
      go_wp2_with fail
      have hS1 := HH.out.drewN nq
      generalize w.drewN nq = w1 at hS1 ⊢
      refine (HP.out _).mono ?_
      rintro e w2 ⟨rfl, hF2⟩
      have HS2 := hid (hS1.same hF2)
      clear hS1 hF2 c0 c1 c3 c4
      go_wp2_with fail
      refine (st_gone HS2.out i j HII.out.1 HII.out.2).mono ?_
      rintro e w3 ⟨rfl, hS3⟩
      rw [HX.out.2]
      rw [HX.out.1, things_set_self HII.out.1] at hS3
      have HS3 := hid hS3
      clear hS3 HS2
      go_wp2_with fail
      go_ret
      exact ⟨rfl, by rw [set_two HII.out.1 HII.out.2]; exact HS3.out⟩
    · have hz1 : ((r.size : Int) == 0) = false := by rw [beq_eq_false_iff_ne]; omega
      have hz2 : (2048 : Int) < r.size := by omega
      clear hlong b1 hz
      have hb := H.blk i hi
      have c0 := cell_blk (i := 0) hb rfl
      have c1 := cell_blk (i := 1) hb rfl
      have c3 := cell_blk (i := 3) hb rfl
      have c4 := cell_blk (i := 4) hb rfl
      have hsl : IntKind.i64.wrap ((x.h.snap : Int) + x.h.log) = (x.h.snap : Int) + x.h.log := IntWalk.i64_in _ (by have := L.room; have := roomN_le d.sec.length; omega)
      have HH := hid H
      have HP := hid (show ∀ w, Calls Tryz.prog 39 #[.string r] w fun e w' => e = .returned (.string t) ∧ Fr [] w w' from fun w => by rw [← ht]; exact pack_text w r hr47)
      have HL := hid L
      have HTF := hid ht
      have HII := hid (And.intro hi hj)
      clear H hb L ht hi hj hraw hil hr47
      go_enter Tryz.func21, Tryz.ntmps21
      go_wp2_with fail
      go_quiet (fail)
      go_wp2_with fail
      have hS1 := HH.out.drewN nq
      generalize w.drewN nq = w1 at hS1 ⊢
      refine (HP.out _).mono ?_
      rintro e w2 ⟨rfl, hF2⟩
      have HS2 := hid (hS1.same hF2)
      clear hS1 hF2 c0 c1 c3 c4
      go_wp2_with fail
      refine (st_gone HS2.out i j HII.out.1 HII.out.2).mono ?_
      rintro e w3 ⟨rfl, hS3⟩
      rw [HX.out.2]
      rw [HX.out.1, things_set_self HII.out.1] at hS3
      have HS3 := hid hS3
      clear hS3 HS2
      go_wp2_with fail
      go_ret
      exact ⟨rfl, by rw [set_two HII.out.1 HII.out.2]; exact HS3.out⟩
  have hz1 : ((r.size : Int) == 0) = false := by rw [beq_eq_false_iff_ne]; omega
  have hz2 : ¬ (2048 : Int) < r.size := by omega
  have hts : t.size ≤ 2050 := by rw [← ht, tf_size]; have := nf_two (n := r.size) (by omega); omega
  have hroomle := roomN_le d.sec.length
  have hLr := L.room
  have hrm : ∀ w', St W w' R → Calls Tryz.prog 23 #[.pointer (some ⟨D, 0, none⟩)] w' fun e w'' => e = .returned (.int .i64 (roomN d.sec.length : Nat)) ∧ w' = w'' := fun w' h => by
    obtain ⟨F, hF⟩ := h.dk j hj
    exact wal_room w' F D d hF L.wf
  have HRM := hid hrm
  have hsum : IntKind.i64.wrap ((x.h.snap : Int) + x.h.log + t.size) = (x.h.snap : Int) + x.h.log + t.size := IntWalk.i64_in _ (by omega)
  have HX := hid (And.intro hself (And.intro hor (And.intro hdx hdd)))
  have HIJ := hid hij
  by_cases hfull : roomN d.sec.length < x.h.snap + x.h.log + t.size
  · have hres : x.append d r = (93, x, d) := by unfold WS.append; rw [if_neg hd, if_neg hlong, ht, if_pos hfull]
    rw [hres]
    have HB2 := hid (show (roomN d.sec.length : Int) < (x.h.snap : Int) + x.h.log + t.size by omega)
    clear hd hres hself hor hdx hdd hlong hfull hrm hts hroomle hLr hij
    have hb := H.blk i hi
    have c0 := cell_blk (i := 0) hb rfl
    have c1 := cell_blk (i := 1) hb rfl
    have c3 := cell_blk (i := 3) hb rfl
    have c4 := cell_blk (i := 4) hb rfl
    have hsl : IntKind.i64.wrap ((x.h.snap : Int) + x.h.log) = (x.h.snap : Int) + x.h.log := IntWalk.i64_in _ (by have := L.room; have := roomN_le d.sec.length; omega)
    have HH := hid H
    have HP := hid (show ∀ w, Calls Tryz.prog 39 #[.string r] w fun e w' => e = .returned (.string t) ∧ Fr [] w w' from fun w => by rw [← ht]; exact pack_text w r hr47)
    have HL := hid L
    have HTF := hid ht
    have HII := hid (And.intro hi hj)
    clear H hb L ht hi hj hraw hil hr47
    go_enter Tryz.func21, Tryz.ntmps21
    go_wp2_with fail
    go_quiet (fail)
    go_wp2_with fail
    have hS1 := HH.out.drewN nq
    generalize w.drewN nq = w1 at hS1 ⊢
    refine (HP.out _).mono ?_
    rintro e w2 ⟨rfl, hF2⟩
    have HS2 := hid (hS1.same hF2)
    clear hS1 hF2 c0 c1 c3 c4
    go_wp2_with fail
    refine (st_gone HS2.out i j HII.out.1 HII.out.2).mono ?_
    rintro e w3 ⟨rfl, hS3⟩
    rw [HX.out.2.1]
    rw [HX.out.1, things_set_self HII.out.1] at hS3
    have hb3 := hS3.blk i HII.out.1
    have d0 := cell_blk (i := 0) hb3 rfl
    have HS3 := hid hS3
    have b2 := HB2.out
    clear hS3 HS2 hb3
    go_wp2_with fail
    refine (HRM.out _ HS3.out).mono ?_
    rintro e w4 ⟨rfl, rfl⟩
    go_wp2_with fail
    go_ret
    exact ⟨rfl, by rw [set_two HII.out.1 HII.out.2]; exact HS3.out⟩
  by_cases hnum : 1099511627776 ≤ x.h.number
  · have hres : x.append d r = (94, x, d) := by unfold WS.append; rw [if_neg hd, if_neg hlong, ht, if_neg hfull, if_pos hnum]
    rw [hres]
    have HB2 := hid (show (x.h.snap : Int) + x.h.log + t.size ≤ (roomN d.sec.length : Int) by omega)
    have HB3 := hid (show (1099511627776 : Int) ≤ (x.h.number : Int) by omega)
    clear hd hres hself hor hdx hdd hlong hfull hrm hts hroomle hLr hij hnum
    have hb := H.blk i hi
    have c0 := cell_blk (i := 0) hb rfl
    have c1 := cell_blk (i := 1) hb rfl
    have c3 := cell_blk (i := 3) hb rfl
    have c4 := cell_blk (i := 4) hb rfl
    have hsl : IntKind.i64.wrap ((x.h.snap : Int) + x.h.log) = (x.h.snap : Int) + x.h.log := IntWalk.i64_in _ (by have := L.room; have := roomN_le d.sec.length; omega)
    have HH := hid H
    have HP := hid (show ∀ w, Calls Tryz.prog 39 #[.string r] w fun e w' => e = .returned (.string t) ∧ Fr [] w w' from fun w => by rw [← ht]; exact pack_text w r hr47)
    have HL := hid L
    have HTF := hid ht
    have HII := hid (And.intro hi hj)
    clear H hb L ht hi hj hraw hil hr47
    go_enter Tryz.func21, Tryz.ntmps21
    go_wp2_with fail
    go_quiet (fail)
    go_wp2_with fail
    have hS1 := HH.out.drewN nq
    generalize w.drewN nq = w1 at hS1 ⊢
    refine (HP.out _).mono ?_
    rintro e w2 ⟨rfl, hF2⟩
    have HS2 := hid (hS1.same hF2)
    clear hS1 hF2 c0 c1 c3 c4
    go_wp2_with fail
    refine (st_gone HS2.out i j HII.out.1 HII.out.2).mono ?_
    rintro e w3 ⟨rfl, hS3⟩
    rw [HX.out.2.1]
    rw [HX.out.1, things_set_self HII.out.1] at hS3
    have hb3 := hS3.blk i HII.out.1
    have d0 := cell_blk (i := 0) hb3 rfl
    have d1 := cell_blk (i := 1) hb3 rfl
    have HS3 := hid hS3
    have b2 := HB2.out
    have b3 := HB3.out
    clear hS3 HS2 hb3
    go_wp2_with fail
    refine (HRM.out _ HS3.out).mono ?_
    rintro e w4 ⟨rfl, rfl⟩
    go_wp2_with fail
    go_ret
    exact ⟨rfl, by rw [set_two HII.out.1 HII.out.2]; exact HS3.out⟩
  obtain ⟨h', hh'⟩ : ∃ h', x.nxt t.size = h' := ⟨_, rfl⟩
  have hres : x.append d r = if (runP d (callW d (x.h.snap + x.h.log) t h')).1 = 0 then (0, { x with h := h', n := x.n + 1 }, (runP d (callW d (x.h.snap + x.h.log) t h')).2) else (2, { x with dead := true }, (runP d (callW d (x.h.snap + x.h.log) t h')).2) := by
    unfold WS.append; rw [if_neg hd, if_neg hlong, ht, if_neg hfull, if_neg hnum, hh']
  obtain ⟨q, hq⟩ : ∃ q, x.append d r = q := ⟨_, rfl⟩
  rw [hq]
  have HQ := hid (hq.symm.trans hres)
  clear hq
  have HB2 := hid (show (x.h.snap : Int) + x.h.log + t.size ≤ (roomN d.sec.length : Int) by omega)
  have HB3 := hid (show x.h.number ≤ 1099511627775 by omega)
  have hPl := L.pl (half := h'.half) (at_ := x.h.snap + x.h.log) (s := t) (by rw [← hh']; exact L.half1) (by omega)
  have hbn := roomN_le d.sec.length
  have hsn := L.snap1
  have HWW := hid (fun (w' : World) (h : St W w' R) => (show Calls Tryz.prog 41 #[.pointer (some ⟨B, 0, none⟩), .int .i64 ((x.h.snap : Int) + x.h.log), .string t, .agg #[.int .i64 ((x.h.number : Int) + 1), .int .i64 (x.h.half : Nat), .int .i64 (x.h.snap : Nat), .int .i64 ((x.h.log : Int) + t.size)]] w' (WrTo W R i j B D x d (x.h.snap + x.h.log) t h') from by
    have h1 := st_wwrite h i j hi hj hij L.wf hdd (x.h.snap + x.h.log) t h' hPl (by rw [← hh']; show x.h.number + 1 ≤ _; omega) (by rw [← hh']; show x.h.snap ≤ _; omega) (by rw [← hh']; show x.h.log + t.size ≤ _; omega) hraw
    rw [← hh'] at h1 ⊢
    have e1 : hV (x.nxt t.size) = .agg #[.int .i64 ((x.h.number : Int) + 1), .int .i64 (x.h.half : Nat), .int .i64 (x.h.snap : Nat), .int .i64 ((x.h.log : Int) + t.size)] := by
      unfold hV WS.nxt; simp only [Int.natCast_add]; rfl
    rw [e1, Int.natCast_add] at h1
    exact h1))
  have hw5 : IntKind.i64.wrap ((x.h.number : Int) + 1) = (x.h.number : Int) + 1 := IntWalk.i64_in _ (by omega)
  have hw6 : IntKind.i64.wrap ((x.h.log : Int) + t.size) = (x.h.log : Int) + t.size := IntWalk.i64_in _ (by omega)
  have hw7 : IntKind.i64.wrap ((x.n : Int) + 1) = (x.n : Int) + 1 := IntWalk.i64_in _ (by have := L.n1; omega)
  have HW5 := hid (And.intro hw5 (And.intro hw6 hw7))
  clear hd hres hself hor hdx hdd hlong hfull hrm hts hroomle hLr hij hnum hPl hbn hsn hw5 hw6 hw7 hh'
  have hb := H.blk i hi
  have c0 := cell_blk (i := 0) hb rfl
  have c1 := cell_blk (i := 1) hb rfl
  have c3 := cell_blk (i := 3) hb rfl
  have c4 := cell_blk (i := 4) hb rfl
  have hsl : IntKind.i64.wrap ((x.h.snap : Int) + x.h.log) = (x.h.snap : Int) + x.h.log := IntWalk.i64_in _ (by have := L.room; have := roomN_le d.sec.length; omega)
  have HH := hid H
  have HP := hid (show ∀ w, Calls Tryz.prog 39 #[.string r] w fun e w' => e = .returned (.string t) ∧ Fr [] w w' from fun w => by rw [← ht]; exact pack_text w r hr47)
  have HL := hid L
  have HTF := hid ht
  have HII := hid (And.intro hi hj)
  clear H hb L ht hi hj hraw hil hr47
  go_enter Tryz.func21, Tryz.ntmps21
  go_wp2_with fail
  go_quiet (fail)
  go_wp2_with fail
  have hS1 := HH.out.drewN nq
  generalize w.drewN nq = w1 at hS1 ⊢
  refine (HP.out _).mono ?_
  rintro e w2 ⟨rfl, hF2⟩
  have HS2 := hid (hS1.same hF2)
  clear hS1 hF2 c0 c1 c3 c4
  go_wp2_with fail
  refine (st_gone HS2.out i j HII.out.1 HII.out.2).mono ?_
  rintro e w3 ⟨rfl, hS3⟩
  rw [HX.out.2.1]
  rw [HX.out.1, things_set_self HII.out.1] at hS3
  have hb3 := hS3.blk i HII.out.1
  have d0 := cell_blk (i := 0) hb3 rfl
  have d1 := cell_blk (i := 1) hb3 rfl
  have d2 := cell_blk (i := 2) hb3 rfl
  have d3 := cell_blk (i := 3) hb3 rfl
  have HS3 := hid hS3
  have HD := hid (And.intro d1 (And.intro d2 (And.intro d3 (cell_blk (i := 4) hb3 rfl))))
  clear hS3 HS2 hb3 d1 d2 d3
  go_wp2_with fail
  refine (HRM.out _ HS3.out).mono ?_
  rintro e w4 ⟨rfl, rfl⟩
  have b2 := HB2.out
  have b3 : decide ((1099511627776 : Int) ≤ (x.h.number : Int)) = false := decide_eq_false (by have := HB3.out; omega)
  have b4 : decide (1099511627776 ≤ x.h.number) = false := decide_eq_false (by have := HB3.out; omega)
  obtain ⟨d1, d2, d3, d4⟩ := HD.out
  obtain ⟨hw5, hw6, hw7⟩ := HW5.out
  clear hw7
  go_wp2_with fail
  refine (HWW.out _ (HS3.out.alloc_ _)).mono ?_
  rintro e w5 h5
  clear d0 d1 d2 d3 d4 b2 b3 b4 hw5 hw6 hsum hsl
  rcases h5 with ⟨h1, rfl, hS5⟩ | ⟨h1, rfl, hS5⟩
  · have hbl := hS5.blk i (b := B) (o := wlO D { x with h := h' }) (by
      rw [List.getElem?_set_ne (Ne.symm HIJ.out), List.getElem?_set_self (lt_of_get HII.out.1)]; rfl)
    have c5 := cell_blk (i := 5) hbl rfl
    have f5 := free_blk (i := 5) hbl
    have hw7 := HW5.out.2.2
    have hS6 := hS5.setBlk i (by rw [List.getElem?_set_ne (Ne.symm HIJ.out), List.getElem?_set_self (lt_of_get HII.out.1)]; rfl) 5 (.int .i64 (((x.n + 1 : Nat)) : Int))
    rw [show (((x.n + 1 : Nat)) : Int) = (x.n : Int) + 1 from Int.natCast_add _ _] at hS6
    have HS6 := hid hS6
    have HQ2 := hid (show q = (0, { x with h := h', n := x.n + 1 }, (runP d (callW d (x.h.snap + x.h.log) t h')).2) by rw [HQ.out, if_pos h1])
    clear hbl hS5 hS6 h1
    go_wp2_with fail
    go_ret
    rw [HQ2.out]
    refine ⟨rfl, ?_⟩
    have h := HS6.out
    rw [List.set_comm _ _ HIJ.out, List.set_set, List.set_comm _ _ (Ne.symm HIJ.out)] at h
    exact h
  · have HS6 := hid hS5
    have HQ2 := hid (show q = (2, { x with dead := true }, (runP d (callW d (x.h.snap + x.h.log) t h')).2) by rw [HQ.out, if_neg (by rw [h1]; decide)])
    clear hS5 h1
    go_wp2_with fail
    go_ret
    rw [HQ2.out]
    exact ⟨rfl, HS6.out⟩

set_option maxHeartbeats 300000 in
set_option maxRecDepth 100000 in
theorem st_wsnapshot (H : St W w R) (i j : Nat) {B D : Nat} {x : WS} {d : DS} (hi : R[i]? = some (WlT B D x)) (hj : R[j]? = some (DkT D d)) (hij : i ≠ j) (L : LgI x d) (r : ByteArray) (hr47 : r.size ≤ 140737488355328) (hraw : (d.raw.length + 2000) * 24 ≤ 140737488355328) :
    Calls Tryz.prog 51 #[.pointer (some ⟨B, 0, none⟩), .string r] w fun e w' => e = .returned (.int .i64 (x.snapshot d r).1) ∧ St W w' ((R.set i (WlT B D (x.snapshot d r).2.1)).set j (DkT D (x.snapshot d r).2.2)) := by
  have hil := lt_of_get hi
  by_cases hd : x.dead = true ∨ d.dead = true
  · have hres : x.snapshot d r = (2, { x with dead := true }, d) := by unfold WS.snapshot; rw [if_pos hd]
    rw [hres]
    have hdd : (x.dead || d.dead) = true := by rcases hd with h | h <;> simp [h]
    have HIJ0 := hid hij
    clear hd hres hij
    have HH := hid H
    have HL := hid L
    have HII := hid (And.intro hi hj)
    clear H L hi hj hraw hil
    go_enter Tryz.func51, Tryz.ntmps51
    go_wp2_with fail
    refine (st_gone HH.out i j HII.out.1 HII.out.2).mono ?_
    rintro e w3 ⟨rfl, hS3⟩
    rw [hdd] at hS3 ⊢
    have HS3 := hid hS3
    clear hS3
    go_wp2_with fail
    go_ret
    refine ⟨rfl, ?_⟩
    rw [things_set_self (i := j) (by rw [List.getElem?_set_ne HIJ0.out]; exact HII.out.2)]
    exact HS3.out
  have hdx : x.dead = false := by cases h : x.dead; rfl; exact absurd (.inl h) hd
  have hdd : d.dead = false := by cases h : d.dead; rfl; exact absurd (.inr h) hd
  have hself : ({ x with dead := x.dead || d.dead } : WS) = x := by cases x; simp only at hdx; simp [hdx, hdd]
  have hor : (x.dead || d.dead) = false := by simp [hdx, hdd]
  have HX := hid (And.intro hself (And.intro hor (And.intro hdx hdd)))
  have HIJ := hid hij
  have hrm : ∀ w', St W w' R → Calls Tryz.prog 23 #[.pointer (some ⟨D, 0, none⟩)] w' fun e w'' => e = .returned (.int .i64 (roomN d.sec.length : Nat)) ∧ w' = w'' := fun w' h => by
    obtain ⟨F, hF⟩ := h.dk j hj
    exact wal_room w' F D d hF L.wf
  have HRM := hid hrm
  by_cases hlong : 17000 < r.size
  · have hres : x.snapshot d r = (92, x, d) := by unfold WS.snapshot; rw [if_neg hd, if_pos (.inl hlong)]
    rw [hres]
    have hz2 : decide ((17000 : Int) < r.size) = true := decide_eq_true (by omega)
    clear hd hres hself hor hdx hdd hij hlong hrm hr47
    have HH := hid H
    have HL := hid L
    have HII := hid (And.intro hi hj)
    clear H L hi hj hraw hil
    go_enter Tryz.func51, Tryz.ntmps51
    go_wp2_with fail
    refine (st_gone HH.out i j HII.out.1 HII.out.2).mono ?_
    rintro e w3 ⟨rfl, hS3⟩
    rw [HX.out.2.1]
    rw [HX.out.1, things_set_self HII.out.1] at hS3
    have HS3 := hid hS3
    clear hS3
    go_wp2_with fail
    go_ret
    exact ⟨rfl, by rw [set_two HII.out.1 HII.out.2]; exact HS3.out⟩
  have hz2 : decide ((17000 : Int) < r.size) = false := decide_eq_false (by omega)
  by_cases hfull : roomN d.sec.length < r.size
  · have hres : x.snapshot d r = (92, x, d) := by unfold WS.snapshot; rw [if_neg hd, if_pos (.inr hfull)]
    rw [hres]
    have HB2 := hid (show decide ((roomN d.sec.length : Int) < (r.size : Int)) = true from decide_eq_true (by omega))
    have HB4 := hid (show decide (roomN d.sec.length < r.size) = true from decide_eq_true hfull)
    clear hd hres hself hor hdx hdd hij hlong hrm hfull hr47
    have HH := hid H
    have HL := hid L
    have HII := hid (And.intro hi hj)
    clear H L hi hj hraw hil
    go_enter Tryz.func51, Tryz.ntmps51
    go_wp2_with fail
    refine (st_gone HH.out i j HII.out.1 HII.out.2).mono ?_
    rintro e w3 ⟨rfl, hS3⟩
    rw [HX.out.2.1]
    rw [HX.out.1, things_set_self HII.out.1] at hS3
    have d0 := cell_blk (i := 0) (hS3.blk i HII.out.1) rfl
    have HS3 := hid hS3
    have b2 := HB2.out
    have b4 := HB4.out
    clear hS3
    go_wp2_with fail
    refine (HRM.out _ HS3.out).mono ?_
    rintro e w4 ⟨rfl, rfl⟩
    go_wp2_with fail
    go_ret
    exact ⟨rfl, by rw [set_two HII.out.1 HII.out.2]; exact HS3.out⟩
  have HB2 := hid (show decide ((roomN d.sec.length : Int) < (r.size : Int)) = false from decide_eq_false (by omega))
  have HB4 := hid (show decide (roomN d.sec.length < r.size) = false from decide_eq_false hfull)
  by_cases hnum : 1099511627776 ≤ x.h.number
  · have hres : x.snapshot d r = (94, x, d) := by unfold WS.snapshot; rw [if_neg hd, if_neg (by omega), if_pos hnum]
    rw [hres]
    have HB3 := hid (show decide ((1099511627776 : Int) ≤ (x.h.number : Int)) = true from decide_eq_true (by omega))
    have HB5 := hid (show decide (1099511627776 ≤ x.h.number) = true from decide_eq_true hnum)
    clear hd hres hself hor hdx hdd hij hlong hrm hfull hnum hr47
    have HH := hid H
    have HL := hid L
    have HII := hid (And.intro hi hj)
    clear H L hi hj hraw hil
    go_enter Tryz.func51, Tryz.ntmps51
    go_wp2_with fail
    refine (st_gone HH.out i j HII.out.1 HII.out.2).mono ?_
    rintro e w3 ⟨rfl, hS3⟩
    rw [HX.out.2.1]
    rw [HX.out.1, things_set_self HII.out.1] at hS3
    have d0 := cell_blk (i := 0) (hS3.blk i HII.out.1) rfl
    have d1 := cell_blk (i := 1) (hS3.blk i HII.out.1) rfl
    have HS3 := hid hS3
    have b2 := HB2.out
    have b4 := HB4.out
    clear hS3
    go_wp2_with fail
    refine (HRM.out _ HS3.out).mono ?_
    rintro e w4 ⟨rfl, rfl⟩
    have b3 := HB3.out
    have b5 := HB5.out
    go_wp2_with fail
    go_ret
    exact ⟨rfl, by rw [set_two HII.out.1 HII.out.2]; exact HS3.out⟩
  obtain ⟨h', hh'⟩ : ∃ h', x.snapH r.size = h' := ⟨_, rfl⟩
  have hres : x.snapshot d r = if (runP d (callW d 0 r h')).1 = 0 then (0, { x with h := h', n := 0 }, (runP d (callW d 0 r h')).2) else (2, { x with dead := true }, (runP d (callW d 0 r h')).2) := by
    unfold WS.snapshot; rw [if_neg hd, if_neg (by omega), if_neg hnum, hh']
  obtain ⟨q, hq⟩ : ∃ q, x.snapshot d r = q := ⟨_, rfl⟩
  rw [hq]
  have HQ := hid (hq.symm.trans hres)
  clear hq
  have HB3 := hid (show decide ((1099511627776 : Int) ≤ (x.h.number : Int)) = false from decide_eq_false (by omega))
  have HB5 := hid (show decide (1099511627776 ≤ x.h.number) = false from decide_eq_false hnum)
  have hhf := L.half1
  have hPl := L.pl (half := h'.half) (at_ := 0) (s := r) (by rw [← hh']; show 1 - x.h.half ≤ 1; omega) (by omega)
  have HWW := hid (fun (w' : World) (h : St W w' R) => (show Calls Tryz.prog 41 #[.pointer (some ⟨B, 0, none⟩), .int .i64 0, .string r, .agg #[.int .i64 ((x.h.number : Int) + 1), .int .i64 (1 - (x.h.half : Int)), .int .i64 (r.size : Int), .int .i64 0]] w' (WrTo W R i j B D x d 0 r h') from by
    have h1 := st_wwrite h i j hi hj hij L.wf hdd 0 r h' hPl (by rw [← hh']; show x.h.number + 1 ≤ _; omega) (by rw [← hh']; show r.size ≤ _; omega) (by rw [← hh']; show 0 ≤ _; omega) hraw
    rw [← hh'] at h1 ⊢
    have e1 : hV (x.snapH r.size) = .agg #[.int .i64 ((x.h.number : Int) + 1), .int .i64 (1 - (x.h.half : Int)), .int .i64 (r.size : Int), .int .i64 0] := by
      unfold hV WS.snapH
      simp only
      rw [show ((x.h.number + 1 : Nat) : Int) = (x.h.number : Int) + 1 from Int.natCast_add _ _, show ((1 - x.h.half : Nat) : Int) = 1 - (x.h.half : Int) by omega]; rfl
    rw [e1] at h1
    exact h1))
  have hw5 : IntKind.i64.wrap ((x.h.number : Int) + 1) = (x.h.number : Int) + 1 := IntWalk.i64_in _ (by omega)
  have hw6 : IntKind.i64.wrap (1 - (x.h.half : Int)) = 1 - (x.h.half : Int) := IntWalk.i64_in _ (by omega)
  have HW5 := hid (And.intro hw5 hw6)
  clear hd hres hself hor hdx hdd hij hlong hrm hfull hnum hr47 hPl hhf hw5 hw6 hh'
  have HH := hid H
  have HL := hid L
  have HII := hid (And.intro hi hj)
  clear H L hi hj hraw hil
  go_enter Tryz.func51, Tryz.ntmps51
  go_wp2_with fail
  refine (st_gone HH.out i j HII.out.1 HII.out.2).mono ?_
  rintro e w3 ⟨rfl, hS3⟩
  rw [HX.out.2.1]
  rw [HX.out.1, things_set_self HII.out.1] at hS3
  have hb3 := hS3.blk i HII.out.1
  have d0 := cell_blk (i := 0) hb3 rfl
  have HD := hid (And.intro (cell_blk (i := 1) hb3 rfl) (cell_blk (i := 2) hb3 rfl))
  have HS3 := hid hS3
  have b2 := HB2.out
  have b4 := HB4.out
  clear hS3 hb3
  go_wp2_with fail
  refine (HRM.out _ HS3.out).mono ?_
  rintro e w4 ⟨rfl, rfl⟩
  have b3 := HB3.out
  have b5 := HB5.out
  obtain ⟨d1, d2⟩ := HD.out
  obtain ⟨hw5, hw6⟩ := HW5.out
  go_wp2_with fail
  go_region_with (first | (go_at_call 41; refine ((HWW.out _ HS3.out.drew).mono (fun _ _ k => k.z)).mono ?_; rintro e w5 ⟨z, rfl, h5⟩))
  all_goals
    clear d0 d1 d2 b2 b3 b4 b5 hw5 hw6 hz2
    rcases h5 with ⟨rfl, h1, hS5⟩ | ⟨rfl, h1, hS5⟩
    · have hbl := hS5.blk i (b := B) (o := wlO D { x with h := h' }) (by
        rw [List.getElem?_set_ne (Ne.symm HIJ.out), List.getElem?_set_self (lt_of_get HII.out.1)]; rfl)
      have c5 := cell_blk (i := 5) hbl rfl
      have f5 := free_blk (i := 5) hbl
      have hS6 := hS5.setBlk i (by rw [List.getElem?_set_ne (Ne.symm HIJ.out), List.getElem?_set_self (lt_of_get HII.out.1)]; rfl) 5 (.int .i64 0)
      have HS6 := hid hS6
      have HQ2 := hid (show q = (0, { x with h := h', n := 0 }, (runP d (callW d 0 r h')).2) by rw [HQ.out, if_pos h1])
      clear hbl hS5 hS6 h1
      go_wp2_with fail
      go_ret
      rw [HQ2.out]
      refine ⟨rfl, ?_⟩
      have h := HS6.out
      rw [List.set_comm _ _ HIJ.out, List.set_set, List.set_comm _ _ (Ne.symm HIJ.out)] at h
      exact h
    · have HS6 := hid hS5
      have HQ2 := hid (show q = (2, { x with dead := true }, (runP d (callW d 0 r h')).2) by rw [HQ.out, if_neg (by rw [h1]; decide)])
      clear hS5 h1
      go_wp2_with fail
      go_ret
      rw [HQ2.out]
      exact ⟨rfl, HS6.out⟩

/-- Format, as plain data. -/
def fmtH : WH := ⟨1, 0, 0, 0⟩
set_option maxHeartbeats 800000 in
theorem st_wformat (H : St W w R) (j : Nat) {D : Nat} {d : DS} (hj : R[j]? = some (DkT D d)) (hw : d.wf) (hd : d.dead = false) (hf : roomN d.sec.length ≠ 0) (hraw : (d.raw.length + 1) * 24 ≤ 140737488355328) :
    Calls Tryz.prog 8 #[.pointer (some ⟨D, 0, none⟩)] w fun e w' =>
      (∃ h s l, Cnt d.sec h s l) ∧ e = .returned (.int .i64 95) ∧ St W w' R ∨
      (∀ a, a < 2 → ∀ h s l, ¬ Fd d.sec a h s l) ∧ e = .returned (.int .i64 (d.write 1 (secB fmtH)).1) ∧ St W w' (R.set j (DkT D (d.write 1 (secB fmtH)).2)) := by
  have hdd : Calls Tryz.prog 22 #[.pointer (some ⟨D, 0, none⟩)] w fun e w' => e = .returned (.bool false) ∧ w = w' := by
    obtain ⟨F, hF⟩ := H.dk j hj
    rw [← hd]
    exact disk_dead w F D d hF
  have hrm : Calls Tryz.prog 23 #[.pointer (some ⟨D, 0, none⟩)] w fun e w'' => e = .returned (.int .i64 (roomN d.sec.length : Nat)) ∧ w = w'' := by
    obtain ⟨F, hF⟩ := H.dk j hj
    exact wal_room w F D d hF hw
  have HD := hid hdd
  have HM := hid hrm
  have HN := hid (st_wcounts H j hj hw hd hf)
  have b1 : ((roomN d.sec.length : Int) == 0) = false := by rw [beq_eq_false_iff_ne]; omega
  have HX := hid (And.intro hw (And.intro hj hraw))
  obtain ⟨sb, hsb⟩ : ∃ sb, secB fmtH = sb := ⟨_, rfl⟩
  have hsc : ∀ w : World, Calls Tryz.prog 26 #[.agg #[.int .i64 1, .int .i64 0, .int .i64 0, .int .i64 0]] w fun e w' => e = .returned (.string sb) ∧ Fr [] w w' := fun w => by
    rw [← hsb]
    exact wal_sector w fmtH (by decide) (by decide) (by decide) (by decide)
  have HSC := hid hsc
  rw [hsb]
  clear H hdd hrm hd hf hw hj hraw hsb hsc
  go_enter Tryz.func8, Tryz.ntmps8
  go_wp2_with fail
  refine HD.out.mono ?_
  rintro e w1 ⟨rfl, rfl⟩
  go_wp2_with fail
  refine HM.out.mono ?_
  rintro e w1 ⟨rfl, rfl⟩
  go_wp2_with fail
  refine HN.out.mono ?_
  rintro e w2 (⟨h, s, l, hc, p, rfl, hS⟩ | ⟨hno, rfl, hS⟩)
  · have HCN := hid hc
    have HS := hid hS.drop
    clear hS hc
    unfold hV
    go_wp2_with fail
    go_ret
    exact .inl ⟨⟨h, s, l, HCN.out⟩, rfl, HS.out.alloc_ _⟩
  · have HS := hid (hS.alloc_ (hO ⟨0, 0, 0, 0⟩))
    have HNO := hid hno
    clear hS hno
    unfold hV
    go_wp2_with fail
    refine (HSC.out _).mono ?_
    rintro e w3 ⟨rfl, hF3⟩
    have HS3 := hid (HS.out.same hF3)
    clear hF3
    go_wp2_with fail
    refine (st_write HS3.out j HX.out.2.1 1 sb HX.out.1 HX.out.2.2).mono ?_
    rintro e w4 ⟨rfl, hS4⟩
    have HS4 := hid hS4
    clear hS4
    go_wp2_with fail
    go_ret
    exact .inr ⟨HNO.out, rfl, HS4.out⟩
end
end Go.Proofs.YthghnlgojmedgaaGreat

/-
  A log that lives, as plain data: what Append and Snapshot make of it; a fresh one. Of no program.
-/
namespace Go.Proofs.YthghnlgojmedgaaGreat
set_option linter.unusedVariables false
set_option linter.unusedSimpArgs false

/-- A log on its disk: the snapshot s, the records l. -/
structure Log (x : WS) (d : DS) (s : ByteArray) (l : List ByteArray) : Prop where
  wf : d.wf
  fit : roomN d.sec.length ≠ 0
  cnt : Cnt d.sec x.h s l
  n : x.n = l.length
  alive : x.dead = false
  on : d.dead = false
theorem frs_len (l : List ByteArray) : l.length ≤ (frs l).length := by
  induction l with
  | nil => exact Nat.zero_le _
  | cons t l ih =>
    have := tf_pos t
    rw [frs_cons, List.length_append, bl_len, List.length_cons]
    omega
theorem Log.i {x : WS} {d : DS} {s : ByteArray} {l : List ByteArray} (L : Log x d s l) : LgI x d := by
  have h := L.cnt.fd.ok
  have h2 := L.cnt.fd.size.2
  have h3 := frs_len l
  have h4 := h.fit
  have h5 := roomN_le d.sec.length
  exact ⟨L.wf, L.fit, h.half1, h.snap1, h.fit, h.n2, by rw [L.n]; omega⟩
theorem Log.len {x : WS} {d : DS} {s : ByteArray} {l : List ByteArray} (L : Log x d s l) : l.length ≤ 65536 ∧ s.size ≤ 17000 := by
  have h := L.cnt.fd.ok
  have h1 := L.cnt.fd.size
  have h3 := frs_len l
  have h4 := h.fit
  have h5 := roomN_le d.sec.length
  have h6 := h.snap1
  omega

theorem run_wfD : ∀ (ws : List (Nat × ByteArray)) (d : DS), d.wf → (runP d ws).2.wf ∧ (runP d ws).2.sec.length = d.sec.length ∧ (runP d ws).2.raw.length ≤ d.raw.length + ws.length
  | [], d, h => ⟨h, rfl, Nat.le_refl _⟩
  | x :: ws, d, h => by
    have h1 := write_wf h x.1 x.2
    have h2 := write_len d x.1 x.2
    rw [runP]
    split
    · obtain ⟨a, b, c⟩ := run_wfD ws _ h1
      refine ⟨a, b.trans h2.1, ?_⟩
      simp only [List.length_cons]; omega
    · refine ⟨h1, h2.1, ?_⟩
      simp only [List.length_cons]; omega

theorem callW_ok {d : DS} {at_ : Nat} {s : ByteArray} {h : WH} (P : Pl d.sec h.half at_ (bl s)) : okW d.sec.length (callW d at_ s h) := by
  intro x hx
  have hf := P.fit
  unfold callW at hx
  rcases List.mem_append.1 hx with hx | hx
  · obtain ⟨k, hk, rfl⟩ := List.mem_map.1 hx
    have hk := List.mem_range.1 hk
    exact ⟨P.fine hk, pC_size _ _ _ _ _⟩
  · rw [List.mem_singleton.1 hx]
    exact ⟨by show h.number % 2 < _; omega, secB_size h⟩
theorem callW_len {d : DS} {at_ : Nat} {s : ByteArray} {h : WH} (P : Pl d.sec h.half at_ (bl s)) : (callW d at_ s h).length ≤ 600 := by
  unfold callW
  rw [List.length_append, plan_len, List.length_singleton]
  have hf := P.fit
  rcases P.pages with h | h <;> omega
theorem callW_set {d : DS} {at_ : Nat} {s : ByteArray} {h : WH} : setAll d.sec (callW d at_ s h) = (setAll d.sec (plan d.sec h.half at_ (bl s))).set (h.number % 2) (secB h) := by
  unfold callW; rw [setAll_app]; rfl

/-- A call that is not cut. -/
theorem call_done {x : WS} {d : DS} {s s' t : ByteArray} {l l' : List ByteArray} {at_ : Nat} {h' : WH} (L : Log x d s l) (P : Pl d.sec h'.half at_ (bl t)) (ha : d.armed = 0 ∨ ((callW d at_ t h').length : Int) < d.armed) (hN : x.h.number < 1099511627776) (hn : h'.number = x.h.number + 1)
    (hs : h'.snap ≤ 17000) (hfit : h'.snap + h'.log = at_ + t.size) (e : hTake d.sec h'.half at_ ++ bl t = bl s' ++ frs l') (hs' : s'.size = h'.snap) (ok : okRecs l') (n' : Nat) (hn' : n' = l'.length) :
    (runP d (callW d at_ t h')).1 = 0 ∧ Log { x with h := h', n := n' } (runP d (callW d at_ t h')).2 s' l' ∧ (runP d (callW d at_ t h')).2 = behindN d (callW d at_ t h') (callW d at_ t h').length := by
  have hr : runP d (callW d at_ t h') = (0, behindN d (callW d at_ t h') (callW d at_ t h').length) := by
    rcases run_to _ d L.on L.wf.a0 (callW_ok P) with ⟨_, h⟩ | ⟨k, h1, h2, _⟩
    · exact h
    · omega
  have hw := run_wfD (callW d at_ t h') d L.wf
  rw [hr] at hw ⊢
  refine ⟨rfl, ⟨hw.1, by rw [hw.2.1]; exact L.fit, ?_, hn', L.alive, L.on⟩, rfl⟩
  have hsec : (behindN d (callW d at_ t h') (callW d at_ t h').length).sec = (setAll d.sec (plan d.sec h'.half at_ (bl t))).set (h'.number % 2) (secB h') := by
    unfold behindN
    rw [List.take_length]
    exact callW_set
  show Cnt (behindN d (callW d at_ t h') (callW d at_ t h').length).sec h' s' l'
  rw [hsec]
  exact (cnt_done L.cnt P hN hn rfl hs (by rw [bl_len]; exact hfit) e hs' ok).1

theorem log_pl {x : WS} {d : DS} {s : ByteArray} {l : List ByteArray} (L : Log x d s l) {r : ByteArray} (h : ¬ roomN d.sec.length < x.h.snap + x.h.log + (tf r).size) : Pl d.sec x.h.half (x.h.snap + x.h.log) (bl (tf r)) :=
  L.i.pl L.i.half1 (by omega)
/-- Append to a log whose disk isn't armed: refused, and nothing has turned, or done. -/
theorem log_append {x : WS} {d : DS} {s : ByteArray} {l : List ByteArray} (L : Log x d s l) (r : ByteArray) (ha : d.armed = 0) :
    ((x.append d r).1 ≠ 0 ∧ (x.append d r).1 ≠ 2 ∧ (x.append d r).2 = (x, d)) ∨
    ((x.append d r).1 = 0 ∧ okRec r ∧ Log (x.append d r).2.1 (x.append d r).2.2 s (l ++ [r]) ∧ (x.append d r).2.2.armed = 0 ∧ (x.append d r).2.2.raw.length ≤ d.raw.length + 600 ∧ (x.append d r).2.1.h.snap + (x.append d r).2.1.h.log = x.h.snap + x.h.log + (tf r).size ∧ (x.append d r).2.2.sec.length = d.sec.length) := by
  have hdead : ¬ (x.dead = true ∨ d.dead = true) := by rw [L.alive, L.on]; simp
  unfold WS.append
  rw [if_neg hdead]
  by_cases h1 : r.size = 0 ∨ 2048 < r.size
  · rw [if_pos h1]; exact .inl ⟨by simp, by simp, rfl⟩
  rw [if_neg h1]
  by_cases h2 : roomN d.sec.length < x.h.snap + x.h.log + (tf r).size
  · rw [if_pos h2]; exact .inl ⟨by simp, by simp, rfl⟩
  rw [if_neg h2]
  by_cases h3 : 1099511627776 ≤ x.h.number
  · rw [if_pos h3]; exact .inl ⟨by simp, by simp, rfl⟩
  rw [if_neg h3]
  have hok := L.cnt.fd
  have hP : Pl d.sec (x.nxt (tf r).size).half (x.h.snap + x.h.log) (bl (tf r)) := log_pl L h2
  have hrec : okRec r := ⟨by omega, by omega⟩
  obtain ⟨c1, c2, c3⟩ := call_done (s' := s) (l' := l ++ [r]) (h' := x.nxt (tf r).size) (n' := x.n + 1) L hP (.inl ha) (by omega) rfl hok.ok.snap1 (by show x.h.snap + (x.h.log + (tf r).size) = _; omega)
    (by show hTake d.sec x.h.half _ ++ _ = _; rw [hok.all, frs_snoc, List.append_assoc]) hok.size.1 (okRecs_snoc hok.recs hrec) (by rw [L.n, List.length_append]; rfl)
  rw [if_pos c1]
  refine .inr ⟨rfl, hrec, c2, ?_, ?_, by show x.h.snap + (x.h.log + (tf r).size) = _; omega, (run_wfD _ d L.wf).2.1⟩
  · show (runP d _).2.armed = 0
    rw [c3]; unfold behindN; simp only [ha]; omega
  · have := (run_wfD (callW d (x.h.snap + x.h.log) (tf r) (x.nxt (tf r).size)) d L.wf).2.2
    have := callW_len hP
    show (runP d _).2.raw.length ≤ _
    omega
/-- Snapshot, likewise. -/
theorem log_snapshot {x : WS} {d : DS} {s : ByteArray} {l : List ByteArray} (L : Log x d s l) (t : ByteArray) (ha : d.armed = 0) :
    ((x.snapshot d t).1 ≠ 0 ∧ (x.snapshot d t).1 ≠ 2 ∧ (x.snapshot d t).2 = (x, d)) ∨
    ((x.snapshot d t).1 = 0 ∧ Log (x.snapshot d t).2.1 (x.snapshot d t).2.2 t [] ∧ (x.snapshot d t).2.2.armed = 0 ∧ (x.snapshot d t).2.2.raw.length ≤ d.raw.length + 600 ∧ (x.snapshot d t).2.1.n = 0 ∧ (x.snapshot d t).2.2.sec.length = d.sec.length) := by
  have hdead : ¬ (x.dead = true ∨ d.dead = true) := by rw [L.alive, L.on]; simp
  unfold WS.snapshot
  rw [if_neg hdead]
  by_cases h1 : 17000 < t.size ∨ roomN d.sec.length < t.size
  · rw [if_pos h1]; exact .inl ⟨by simp, by simp, rfl⟩
  rw [if_neg h1]
  by_cases h3 : 1099511627776 ≤ x.h.number
  · rw [if_pos h3]; exact .inl ⟨by simp, by simp, rfl⟩
  rw [if_neg h3]
  have hh := L.i.half1
  have hP : Pl d.sec (x.snapH t.size).half 0 (bl t) := L.i.pl (by show 1 - x.h.half ≤ 1; omega) (by omega)
  obtain ⟨c1, c2, c3⟩ := call_done (s' := t) (l' := []) (h' := x.snapH t.size) (n' := 0) L hP (.inl ha) (by omega) rfl (by show t.size ≤ _; omega) (by show t.size + 0 = 0 + t.size; omega)
    (by rw [hTake_zero]; simp [frs]) rfl (fun _ h => by cases h) rfl
  rw [if_pos c1]
  refine .inr ⟨rfl, c2, ?_, ?_, rfl, (run_wfD _ d L.wf).2.1⟩
  · show (runP d _).2.armed = 0
    rw [c3]; unfold behindN; simp only [ha]; omega
  · have := (run_wfD (callW d 0 t (x.snapH t.size)) d L.wf).2.2
    have := callW_len hP
    show (runP d _).2.raw.length ≤ _
    omega

/-! ### A disk of noughts -/
theorem zero_no {g : WH} {a r : Nat} (hg : g.ok a r) (hr : r ≤ 65536) : zeroSec ≠ secB g := by
  intro e
  have h0 : ∀ i, i < 8 → gB zeroSec i = 0 := fun i hi => by
    unfold gB
    have h := zero_at i
    unfold sget at h
    have h2 : (zeroSec.data.toList.getD i 0).toNat = 0 := by omega
    exact UInt8.toNat_inj.1 h2
  have hb := (hg.bounds hr).1
  have : g.number = 0 := nB_inj hb (by decide) fun i hi => by
    rw [← gB_front g hi, ← e, h0 i hi]
    unfold nB
    match i, hi with
    | 0, _ => rfl
    | 1, _ => rfl
    | 2, _ => rfl
    | 3, _ => rfl
    | 4, _ => rfl
    | 5, _ => rfl
    | 6, _ => rfl
    | 7, _ => rfl
  have := hg.n1
  omega
theorem new_sec (n i : Nat) (hi : i < n) : sAt (DS.new n).sec i = zeroSec := by
  unfold sAt DS.new; simp [List.getD, hi]
theorem new_none {n : Nat} (h1 : 4 ≤ n) : ∀ a, a < 2 → ∀ h s l, ¬ Fd (DS.new n).sec a h s l := by
  intro a ha h s l hf
  exact zero_no hf.ok (roomN_le _) ((new_sec n a (by omega)).symm.trans hf.sec)
/-- A fresh log. -/
theorem new_log {n : Nat} (h1 : 4 ≤ n) (h2 : n % 2 = 0) (h3 : n ≤ 1026) :
    ((DS.new n).write 1 (secB fmtH)).1 = 0 ∧ Log ⟨fmtH, 0, false⟩ ((DS.new n).write 1 (secB fmtH)).2 ⟨#[]⟩ [] ∧ ((DS.new n).write 1 (secB fmtH)).2.armed = 0 ∧ ((DS.new n).write 1 (secB fmtH)).2.raw.length = 1 ∧ ((DS.new n).write 1 (secB fmtH)).2.sec.length = n ∧
    sAt ((DS.new n).write 1 (secB fmtH)).2.sec 0 = zeroSec := by
  have hl : (DS.new n).sec.length = n := by simp [DS.new]
  have hw := write_ok (d := DS.new n) (p := 1) (c := secB fmtH) rfl (by rw [hl]; omega) (secB_size _) (by simp [DS.new])
  have hwf := write_wf (new_wf (n := n) (by omega) h3) 1 (secB fmtH)
  rw [show (((1 : Nat)) : Int) = 1 from rfl] at hw
  rw [hw] at hwf ⊢
  have hroom : roomN ((DS.new n).sec.set 1 (secB fmtH)).length ≠ 0 := by rw [List.length_set, hl]; unfold roomN; rw [if_neg (by omega)]; omega
  have hs1 : sAt ((DS.new n).sec.set 1 (secB fmtH)) 1 = secB fmtH := by rw [sAt_set' _ _ _ _ (by rw [hl]; omega), if_pos rfl]
  have hs0 : sAt ((DS.new n).sec.set 1 (secB fmtH)) 0 = zeroSec := by rw [sAt_set' _ _ _ _ (by rw [hl]; omega), if_neg (by decide), new_sec n 0 (by omega)]
  refine ⟨rfl, ⟨hwf, hroom, ⟨⟨hs1, ⟨by decide, by decide, rfl, by decide, by decide, Nat.zero_le _⟩, rfl, rfl, fun _ h => by cases h⟩, fun g s l hf => ?_⟩, rfl, rfl, rfl⟩, by show max 0 ((DS.new n).armed - 1) = 0; simp [DS.new]; omega, by simp [DS.new], by rw [List.length_set, hl], hs0⟩
  have hf' : Fd ((DS.new n).sec.set 1 (secB fmtH)) 0 g s l := hf
  exact absurd (hs0.symm.trans hf'.sec) (zero_no hf'.ok (roomN_le _))

end Go.Proofs.YthghnlgojmedgaaGreat
