/-
  Cut of the package disk: slices.IndexFunc and ContainsFunc over its closures.
-/
import Derived.Test.YtkkahkgjedgjnaaPlayed
namespace Go.Proofs.Ytkkahkgjedgjnaa
open Go.RowKit
set_option linter.unusedVariables false
set_option linter.unusedSimpArgs false

theorem index_writes (w : World) (b : Option Addr) (cb : Nat) (ws : List (Int × ByteArray)) (hb : In w 2 b ws.length cb (wrV ws)) (fid : Nat) (cap : Array Value) (p : Nat → Bool) (he : ∀ args wx, (callFunc fid args).run Try.prog wx = .ok (.enter fid args) wx)
    (hf : ∀ k wx, k < ws.length → Fr [] w wx → Calls Try.prog fid (#[.agg #[.int .i64 (wAt ws k).1, .string (wAt ws k).2]] ++ cap) wx fun e w' => e = .returned (.bool (p k)) ∧ Fr [] wx w') :
    Calls Try.prog 69 #[.slice b ws.length cb, .func (.func fid) #[] cap] w fun e w' => ∃ z : Int, e = .returned (.int .i64 z) ∧ Fr [] w w' ∧ ((∃ k, k < ws.length ∧ p k = true ∧ z = k) ∨ (∀ k, k < ws.length → p k = false) ∧ z = -1) := by
  have hmb := hb.max
  have HB := hid hb
  have HF := hid hf
  have HE := hid he
  clear hb hf he
  go_enter Try.func69, Try.ntmps69
  go_wp2_with fail
  go_loopw [8] (fun i wr => ∃ k : Nat, k ≤ ws.length ∧ i = .int .i64 k ∧ (∀ j, j < k → p j = false) ∧ Fr [] w wr) (fun i _ => ws.length - (intOf i).toNat)
  case atStart => exact ⟨0, Nat.zero_le _, rfl, fun j hj => absurd hj (Nat.not_lt_zero _), Fr.refl _ _⟩
  case round =>
    obtain ⟨k, hk, rfl, hall, hF⟩ := hrel
    have HAll := hid (And.intro hall hF)
    clear hall hF
    by_cases hlt : k < ws.length
    · obtain ⟨bb, ob, rfl⟩ := HB.out.sm (by omega)
      have c1 := HAll.out.2.cell0 (HB.out.cell bb ob rfl (k * 2) (by omega))
      have c2 := HAll.out.2.cell0 (HB.out.cell bb ob rfl (k * 2 + 1) (by omega))
      rw [wrV_0] at c1
      rw [wrV_1, ← Nat.add_assoc] at c2
      have HC := hid (HF.out k wr hlt HAll.out.2)
      generalize hx : wAt ws k = x at c1 c2 HC
      clear hx
      cases hp : p k
      · rw [hp] at HC
        have HPk := hid hp
        clear hp
        go_wp2_with fail
        rw [HE.out, Oper.upon_enter]
        refine HC.out.mono ?_
        rintro e w1 ⟨rfl, hF1⟩
        have HF1 := hid hF1
        clear hF1
        go_wp2_with fail
        go_roundw
        case rel => exact ⟨k + 1, by omega, by go_num, fun j hj => by by_cases hjk : j = k; (subst hjk; exact HPk.out); exact HAll.out.1 j (by omega), HAll.out.2.trans HF1.out⟩
        case measure => simp [intOf]; omega
      · rw [hp] at HC
        have HPk := hid hp
        clear hp
        go_wp2_with fail
        rw [HE.out, Oper.upon_enter]
        refine HC.out.mono ?_
        rintro e w1 ⟨rfl, hF1⟩
        have HF1 := hid hF1
        clear hF1
        go_wp2_with fail
        go_ret
        exact ⟨_, rfl, HAll.out.2.trans HF1.out, .inl ⟨k, hlt, HPk.out, rfl⟩⟩
    · obtain rfl : k = ws.length := by omega
      go_wp2_with fail
      go_ret
      exact ⟨_, rfl, HAll.out.2, .inr ⟨HAll.out.1, rfl⟩⟩

theorem index_strs (w : World) (b : Option Addr) (cb : Nat) (ws : List ByteArray) (hb : In w 1 b ws.length cb (strV ws)) (fid : Nat) (cap : Array Value) (p : Nat → Bool) (he : ∀ args wx, (callFunc fid args).run Try.prog wx = .ok (.enter fid args) wx)
    (hf : ∀ k wx, k < ws.length → Fr [] w wx → Calls Try.prog fid (#[.string (sAt ws k)] ++ cap) wx fun e w' => e = .returned (.bool (p k)) ∧ Fr [] wx w') :
    Calls Try.prog 70 #[.slice b ws.length cb, .func (.func fid) #[] cap] w fun e w' => ∃ z : Int, e = .returned (.int .i64 z) ∧ Fr [] w w' ∧ ((∃ k, k < ws.length ∧ p k = true ∧ z = k) ∨ (∀ k, k < ws.length → p k = false) ∧ z = -1) := by
  have hmb := hb.max
  have HB := hid hb
  have HF := hid hf
  have HE := hid he
  clear hb hf he
  go_enter Try.func70, Try.ntmps70
  go_wp2_with fail
  go_loopw [8] (fun i wr => ∃ k : Nat, k ≤ ws.length ∧ i = .int .i64 k ∧ (∀ j, j < k → p j = false) ∧ Fr [] w wr) (fun i _ => ws.length - (intOf i).toNat)
  case atStart => exact ⟨0, Nat.zero_le _, rfl, fun j hj => absurd hj (Nat.not_lt_zero _), Fr.refl _ _⟩
  case round =>
    obtain ⟨k, hk, rfl, hall, hF⟩ := hrel
    have HAll := hid (And.intro hall hF)
    clear hall hF
    by_cases hlt : k < ws.length
    · obtain ⟨bb, ob, rfl⟩ := HB.out.sm (by omega)
      have c1 := HAll.out.2.cell0 (HB.out.cell bb ob rfl k (by omega))
      simp only [strV] at c1
      have HC := hid (HF.out k wr hlt HAll.out.2)
      generalize hx : sAt ws k = x at c1 HC
      clear hx
      cases hp : p k
      · rw [hp] at HC
        have HPk := hid hp
        clear hp
        go_wp2_with fail
        rw [HE.out, Oper.upon_enter]
        refine HC.out.mono ?_
        rintro e w1 ⟨rfl, hF1⟩
        have HF1 := hid hF1
        clear hF1
        go_wp2_with fail
        go_roundw
        case rel => exact ⟨k + 1, by omega, by go_num, fun j hj => by by_cases hjk : j = k; (subst hjk; exact HPk.out); exact HAll.out.1 j (by omega), HAll.out.2.trans HF1.out⟩
        case measure => simp [intOf]; omega
      · rw [hp] at HC
        have HPk := hid hp
        clear hp
        go_wp2_with fail
        rw [HE.out, Oper.upon_enter]
        refine HC.out.mono ?_
        rintro e w1 ⟨rfl, hF1⟩
        have HF1 := hid hF1
        clear hF1
        go_wp2_with fail
        go_ret
        exact ⟨_, rfl, HAll.out.2.trans HF1.out, .inl ⟨k, hlt, HPk.out, rfl⟩⟩
    · obtain rfl : k = ws.length := by omega
      go_wp2_with fail
      go_ret
      exact ⟨_, rfl, HAll.out.2, .inr ⟨HAll.out.1, rfl⟩⟩

theorem run_enter {P : Program} {f : FuncId} {fn : Func} {c : Code} (hf : P.funcs[f]? = some fn) (hname : (fn.name == "runtime.NumGoroutine") = false) (hb : fn.body = some c) (args : Array Value) (w : World) :
    (callFunc f args).run P w = .ok (.enter f args) w := by
  have hn : ¬ fn.name = "runtime.NumGoroutine" := by simpa using hname
  simp [callFunc, go_sem, hf, hb, hn]

theorem enter_cut1 (args : Array Value) (w : World) : (callFunc 58 args).run Try.prog w = .ok (.enter 58 args) w := run_enter Try.func58 (by kernel_rfl) rfl args w
theorem enter_cut2 (args : Array Value) (w : World) : (callFunc 60 args).run Try.prog w = .ok (.enter 60 args) w := run_enter Try.func60 (by kernel_rfl) rfl args w
theorem enter_cut3 (args : Array Value) (w : World) : (callFunc 61 args).run Try.prog w = .ok (.enter 61 args) w := run_enter Try.func61 (by kernel_rfl) rfl args w

theorem contains_writes (w : World) (b : Option Addr) (cb : Nat) (ws : List (Int × ByteArray)) (hb : In w 2 b ws.length cb (wrV ws)) (fid : Nat) (cap : Array Value) (p : Nat → Bool) (he : ∀ args wx, (callFunc fid args).run Try.prog wx = .ok (.enter fid args) wx)
    (hf : ∀ k wx, k < ws.length → Fr [] w wx → Calls Try.prog fid (#[.agg #[.int .i64 (wAt ws k).1, .string (wAt ws k).2]] ++ cap) wx fun e w' => e = .returned (.bool (p k)) ∧ Fr [] wx w') :
    Calls Try.prog 57 #[.slice b ws.length cb, .func (.func fid) #[] cap] w fun e w' => ∃ z : Bool, e = .returned (.bool z) ∧ Fr [] w w' ∧ (z = true ↔ ∃ k, k < ws.length ∧ p k = true) := by
  have HC := hid (index_writes w b cb ws hb fid cap p he hf)
  have hmb := hb.max
  clear hb he hf
  go_enter Try.func57, Try.ntmps57
  go_wp2_with fail
  refine HC.out.mono ?_
  rintro e w1 ⟨z, rfl, hF, ⟨k, hk, hp, rfl⟩ | ⟨hall, rfl⟩⟩
  · have HX := hid (And.intro hF hp)
    clear hF hp
    have h0 : ¬ ((k : Int) < 0) := by omega
    go_wp2_with fail
    go_ret
    exact ⟨true, rfl, HX.out.1, by simp; exact ⟨k, hk, HX.out.2⟩⟩
  · have HX := hid (And.intro hF hall)
    clear hF hall
    go_wp2_with fail
    go_ret
    exact ⟨false, rfl, HX.out.1, by simp; exact HX.out.2⟩

theorem contains_strs (w : World) (b : Option Addr) (cb : Nat) (ws : List ByteArray) (hb : In w 1 b ws.length cb (strV ws)) (fid : Nat) (cap : Array Value) (p : Nat → Bool) (he : ∀ args wx, (callFunc fid args).run Try.prog wx = .ok (.enter fid args) wx)
    (hf : ∀ k wx, k < ws.length → Fr [] w wx → Calls Try.prog fid (#[.string (sAt ws k)] ++ cap) wx fun e w' => e = .returned (.bool (p k)) ∧ Fr [] wx w') :
    Calls Try.prog 59 #[.slice b ws.length cb, .func (.func fid) #[] cap] w fun e w' => ∃ z : Bool, e = .returned (.bool z) ∧ Fr [] w w' ∧ (z = true ↔ ∃ k, k < ws.length ∧ p k = true) := by
  have HC := hid (index_strs w b cb ws hb fid cap p he hf)
  have hmb := hb.max
  clear hb he hf
  go_enter Try.func59, Try.ntmps59
  go_wp2_with fail
  refine HC.out.mono ?_
  rintro e w1 ⟨z, rfl, hF, ⟨k, hk, hp, rfl⟩ | ⟨hall, rfl⟩⟩
  · have HX := hid (And.intro hF hp)
    clear hF hp
    have h0 : ¬ ((k : Int) < 0) := by omega
    go_wp2_with fail
    go_ret
    exact ⟨true, rfl, HX.out.1, by simp; exact ⟨k, hk, HX.out.2⟩⟩
  · have HX := hid (And.intro hF hall)
    clear hF hall
    go_wp2_with fail
    go_ret
    exact ⟨false, rfl, HX.out.1, by simp; exact HX.out.2⟩

def badSec (n : Nat) (i : Int) : Bool := decide (i < 0) || decide ((n : Int) ≤ i)
def badLen (s : ByteArray) : Bool := decide (s.size ≠ 128)

theorem cut1_any (w : World) (B : Nat) (a : Option Addr) (n ca : Nat) (hc : w.cell? ⟨B, 0, none⟩ = some (.slice a n ca)) (hn : n ≤ 9223372036854775807) (i : Int) (s : ByteArray) :
    Calls Try.prog 58 #[.agg #[.int .i64 i, .string s], .pointer (some ⟨B, 0, none⟩)] w fun e w' => e = .returned (.bool (badSec n i)) ∧ Fr [] w w' := by
  have hB : B < w.heap.size := World.block_lt_of_cell? w ⟨B, 0, none⟩ hc
  by_cases h0 : i < 0
  · have e : badSec n i = true := by unfold badSec; simp [h0]
    rw [e]
    clear e
    go_enter Try.func58, Try.ntmps58
    go_wp2
    go_ret
    exact ⟨rfl, (Fr.refl _ _).alloc _⟩
  by_cases h1 : (n : Int) ≤ i
  · have e : badSec n i = true := by unfold badSec; simp [h1]
    rw [e]
    clear e
    go_enter Try.func58, Try.ntmps58
    go_wp2
    go_ret
    exact ⟨rfl, (Fr.refl _ _).alloc _⟩
  · have e : badSec n i = false := by unfold badSec; simp [h0, h1]
    rw [e]
    clear e
    go_enter Try.func58, Try.ntmps58
    go_wp2
    go_ret
    exact ⟨rfl, (Fr.refl _ _).alloc _⟩

theorem cut2_any (w : World) (s : ByteArray) (hs : s.size ≤ 9223372036854775807) :
    Calls Try.prog 60 #[.string s] w fun e w' => e = .returned (.bool (badLen s)) ∧ Fr [] w w' := by
  by_cases h : s.size = 128
  · have e : badLen s = false := by unfold badLen; simp [h]
    rw [e]
    have hs1 : ((s.size : Int) == 128) = true := by rw [beq_iff_eq]; omega
    have hs2 : ((s.size : Int) != 128) = false := by rw [bne_eq_false_iff_eq]; omega
    clear e h
    go_enter Try.func60, Try.ntmps60
    go_wp2
    go_ret
    exact ⟨rfl, Fr.refl _ _⟩
  · have e : badLen s = true := by unfold badLen; simp [h]
    rw [e]
    have hs1 : ((s.size : Int) == 128) = false := by rw [beq_eq_false_iff_ne]; omega
    have hs2 : ((s.size : Int) != 128) = true := by rw [bne_iff_ne]; omega
    clear e h
    go_enter Try.func60, Try.ntmps60
    go_wp2
    go_ret
    exact ⟨rfl, Fr.refl _ _⟩

theorem cut3_any (w : World) (i : Int) (s : ByteArray) (hs : s.size ≤ 9223372036854775807) :
    Calls Try.prog 61 #[.agg #[.int .i64 i, .string s]] w fun e w' => e = .returned (.bool (badLen s)) ∧ Fr [] w w' := by
  by_cases h : s.size = 128
  · have e : badLen s = false := by unfold badLen; simp [h]
    rw [e]
    have hs1 : ((s.size : Int) == 128) = true := by rw [beq_iff_eq]; omega
    have hs2 : ((s.size : Int) != 128) = false := by rw [bne_eq_false_iff_eq]; omega
    clear e h
    go_enter Try.func61, Try.ntmps61
    go_wp2
    go_ret
    exact ⟨rfl, (Fr.refl _ _).alloc _⟩
  · have e : badLen s = true := by unfold badLen; simp [h]
    rw [e]
    have hs1 : ((s.size : Int) == 128) = false := by rw [beq_eq_false_iff_ne]; omega
    have hs2 : ((s.size : Int) != 128) = true := by rw [bne_iff_ne]; omega
    clear e h
    go_enter Try.func61, Try.ntmps61
    go_wp2
    go_ret
    exact ⟨rfl, (Fr.refl _ _).alloc _⟩

theorem clip_strs (w : World) (a : Option Addr) (n cap : Nat) (h1 : n ≤ cap) (h2 : cap ≤ 9223372036854775807) (h3 : a = none → cap = 0) :
    Calls Try.prog 62 #[.slice a n cap] w fun e w' => e = .returned (.slice a n n) ∧ w = w' := by
  go_enter Try.func62, Try.ntmps62
  go_wp2
  go_ret
  exact ⟨rfl, rfl⟩

set_option maxHeartbeats 800000 in
set_option maxRecDepth 100000 in
theorem clone_strs (w : World) (b off cap : Nat) (ss : List ByteArray) (h : In w 1 (some ⟨b, off, none⟩) ss.length cap (strV ss)) (hn : ss.length * 16 ≤ 140737488355328) :
    Calls Try.prog 63 #[.slice (some ⟨b, off, none⟩) ss.length cap] w fun e w' => ∃ g cap', e = .returned (.slice (some ⟨g, 0, none⟩) ss.length cap') ∧ Fr [] w w' ∧ w'.ownsRow 0 9 1 (.slice (some ⟨g, 0, none⟩) ss.length cap') ss.length (strs ss ss.length) ∧ w.heap.size ≤ g := by
  obtain ⟨i0, hi, hz0, hz1, hz2⟩ := info_parts info_string
  have HI := hid (And.intro hi (And.intro hz0 (And.intro hz1 hz2)))
  have H := hid h
  clear hi hz0 hz1 hz2 h
  have heq := fun w1 => Lib.run_eql_slice_nil (P := Try.prog) w1 46 9 (some ⟨b, off, none⟩) ss.length cap 0 0 Try.underlying46
  go_enter Try.func63, Try.ntmps63
  go_wp2_with (at_builtin; refine wpList_copied rfl (.tmp 5) (.tmp 6) 46 rfl 9 i0 (.string ByteArray.empty) 1 16 Try.underlying46 HI.out.1 HI.out.2.1 HI.out.2.2.1 HI.out.2.2.2 rfl (by decide) w.heap.size rfl (blk_alloc_at _ _ _ rfl) (some ⟨b, off, none⟩) ss.length cap (strV ss) rfl ?qa (fun j _ => strV_one _ j) (by omega) ?_)
  case qa => exact H.out.fr0 ((Fr.refl [] w).alloc _)
  intro g cg w1 ho hF1 hg
  replace ho : w1.ownsRow 0 9 1 (.slice (some ⟨g, 0, none⟩) ss.length cg) ss.length (strs ss ss.length) := ho
  have hF : Fr [] w w1 := ((Fr.refl [] w).alloc (.cells #[] 9)).step hF1 (by intro x hx; simp at hx; subst hx; exact .inr (Nat.le_refl _))
  have hg' : w.heap.size ≤ g := by rcases hg with h | h <;> first | omega | (simp at h; omega)
  have HZ := hid (And.intro ho (And.intro hF hg'))
  clear ho hF hF1 hg hg'
  go_wp2_with fail
  go_ret
  exact ⟨g, cg, rfl, HZ.out.2.1, HZ.out.1, HZ.out.2.2⟩

end Go.Proofs.Ytkkahkgjedgjnaa
