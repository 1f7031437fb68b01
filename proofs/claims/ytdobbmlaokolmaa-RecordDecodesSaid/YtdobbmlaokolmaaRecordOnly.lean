/-
  RecordOnly: the walk.
-/
import Derived.Test.YtdobbmlaokolmaaRM
import Derived.Test.YtdobbmlaokolmaaSn
namespace Go.Proofs.Ytdobbmlaokolmaa
open Go.RowKit
set_option linter.unusedVariables false
set_option linter.unusedSimpArgs false

theorem enc_first {l : List CV} {b : ByteArray} (h : encode l = (b, 0)) : (1 ≤ l.length ∧ l.length ≤ 16) ∧ b.size ≤ 2048 ∧ ∃ h0 : 0 < b.size, (b[0]'h0).toNat = l.length := by
  obtain ⟨h1, h2, h3, h4⟩ := encode_iff.1 h
  have e : bl b = l.length.toUInt8 :: l.flatMap CV.put := by rw [h3, rowB, nf_small _ (by omega)]; rfl
  have h0 : 0 < b.size := by rw [← bl_len, e]; simp
  refine ⟨h1, h4, h0, ?_⟩
  have hx : (bl b)[0]? = some l.length.toUInt8 := by rw [e]; rfl
  rw [List.getElem?_eq_getElem (show 0 < (bl b).length from h0)] at hx
  have h2 : b.data[0] = l.length.toUInt8 := by simpa [bl] using hx
  have : b[0] = l.length.toUInt8 := h2
  rw [this]; simp; omega
theorem enc_inj {l r : List CV} {a b : ByteArray} (hl : ∀ c, c ∈ l → 0 ≤ c.bits ∧ c.bits < 18446744073709551616) (hr : ∀ c, c ∈ r → 0 ≤ c.bits ∧ c.bits < 18446744073709551616) (h : encode l = (a, 0)) (h' : encode r = (b, 0)) : a = b ↔ l = r := by
  constructor
  · rintro rfl
    have h1 := decode_iff.2 ⟨h, hl⟩
    rw [decode_iff.2 ⟨h', hr⟩] at h1
    exact (Option.some.inj h1).symm
  · rintro rfl; rw [h] at h'; exact (Prod.mk.inj h').1
theorem ChIn.bits {w : World} {a : Option Addr} {n cap : Nat} {l : List (CV × TS)} (h : ChIn w a n cap l) : ∀ c, c ∈ l.map (·.1) → 0 ≤ c.bits ∧ c.bits < 18446744073709551616 := by
  intro c hc
  obtain ⟨x, hx, rfl⟩ := List.mem_map.1 hc
  exact (h.one x hx).2

set_option maxHeartbeats 4000000 in
set_option maxRecDepth 100000 in
theorem only_walk (w : World) (a : Option Addr) (n ca : Nat) (l : List (CV × TS)) (ha : ChIn w a n ca l) (b : Option Addr) (m cb : Nat) (r : List (CV × TS)) (hb : ChIn w b m cb r) :
    Calls Try.prog 7 #[.slice a n ca, .slice b m cb] w fun e w' => e = .returned (.bool true) ∧ Fr [] w w' := by
  have hbb : ∀ w : World, (binOp .neq 4 (.bool true) (.bool true)).run Try.prog w = .ok (.bool false) w := fun _ => rfl
  have hm1 := ha.row.max
  have hm2 := hb.row.max
  have hE := encode_walk w a n ca l ha
  have hE2 := fun w1 (hF : Fr [] w w1) => encode_walk w1 b m cb r (hb.fr0 hF)
  have hS := fun w1 (hF : Fr [] w w1) => same_walk w1 a b n m ca cb l r (ha.fr0 hF) (hb.fr0 hF)
  obtain ⟨A, E, hAE⟩ : ∃ A E, encode (l.map (·.1)) = (A, E) := ⟨_, _, rfl⟩
  obtain ⟨B, F, hBF⟩ : ∃ B F, encode (r.map (·.1)) = (B, F) := ⟨_, _, rfl⟩
  rw [hAE] at hE
  rw [hBF] at hE2
  have hinj := fun (h1 : E = 0) (h2 : F = 0) => enc_inj ha.bits hb.bits (a := A) (b := B) (by rw [hAE, h1]) (by rw [hBF, h2])
  have hfst := fun (h1 : E = 0) => enc_first (l := l.map (·.1)) (b := A) (by rw [hAE, h1])
  rw [List.length_map, ha.len] at hfst
  have hE := hid hE
  have hE2 := hid hE2
  have hS := hid hS
  clear hAE hBF ha hb
  by_cases hE0 : E = 0
  · subst hE0
    obtain ⟨⟨g1, g2⟩, g3, g4, g5⟩ := hfst rfl
    have g7 : ¬ (A.size : Int) < 1 := by omega
    have g8 : ¬ (2048 : Int) < A.size := by omega
    have g9 : ¬ (n : Int) < 1 := by omega
    have g10 : ¬ (16 : Int) < n := by omega
    clear g1 g2 g3
    by_cases hF0 : F = 0
    · subst hF0
      have hi := hinj rfl rfl
      by_cases hab : A = B
      · subst hab
        have HZ := hid (hi.1 rfl)
        clear hi hinj hfst
        go_enter Try.func7, Try.ntmps7
        go_wp2_with (first
          | (go_at_call 15; refine (hE2.out _ hF1.out).mono ?_; rintro e w2 ⟨rfl, hF⟩; have hF2 := hid (hF1.out.trans hF))
          | (go_at_call 15; refine hE.out.mono ?_; rintro e w1 ⟨rfl, hF⟩; have hF1 := hid hF)
          | (go_at_call 17; refine (hS.out _ hF2.out).mono ?_; rintro e w3 ⟨⟨z, rfl, hz⟩, hF⟩; have hF3 := hid (hF2.out.trans hF); obtain rfl : z = true := hz.2 HZ.out; clear hz hF)
          | (go_at_call 14; refine (fixed_walk _).mono ?_; rintro e w4 ⟨rfl, hF⟩; have hF4 := hid hF))
        go_ret
        exact ⟨rfl, hF3.out.trans hF4.out⟩
      · have hne := ba_ne hab
        have HZ := hid (fun h => hab (hi.2 h))
        clear hi hinj hfst hab
        go_enter Try.func7, Try.ntmps7
        go_wp2_with (first
          | (go_at_call 15; refine (hE2.out _ hF1.out).mono ?_; rintro e w2 ⟨rfl, hF⟩; have hF2 := hid (hF1.out.trans hF))
          | (go_at_call 15; refine hE.out.mono ?_; rintro e w1 ⟨rfl, hF⟩; have hF1 := hid hF)
          | (go_at_call 17; refine (hS.out _ hF2.out).mono ?_; rintro e w3 ⟨⟨z, rfl, hz⟩, hF⟩; have hF3 := hid (hF2.out.trans hF); obtain rfl : z = false := (by cases z; rfl; exact absurd (hz.1 rfl) HZ.out); clear hz hF)
          | (go_at_call 14; refine (fixed_walk _).mono ?_; rintro e w4 ⟨rfl, hF⟩; have hF4 := hid hF))
        go_ret
        exact ⟨rfl, hF3.out.trans hF4.out⟩
    · have hF1' : (F == 0) = false := by rw [beq_eq_false_iff_ne]; exact hF0
      clear hinj hfst
      go_enter Try.func7, Try.ntmps7
      go_wp2_with (first
        | (go_at_call 15; refine (hE2.out _ hF1.out).mono ?_; rintro e w2 ⟨rfl, hF⟩; have hF2 := hid (hF1.out.trans hF))
        | (go_at_call 15; refine hE.out.mono ?_; rintro e w1 ⟨rfl, hF⟩; have hF1 := hid hF)
        | (go_at_call 14; refine (fixed_walk _).mono ?_; rintro e w4 ⟨rfl, hF⟩; have hF4 := hid hF))
      go_ret
      exact ⟨rfl, hF2.out.trans hF4.out⟩
  · have hE1 : (E == 0) = false := by rw [beq_eq_false_iff_ne]; exact hE0
    clear hinj hfst
    go_enter Try.func7, Try.ntmps7
    go_wp2_with (first
      | (go_at_call 15; refine (hE2.out _ hF1.out).mono ?_; rintro e w2 ⟨rfl, hF⟩; have hF2 := hid (hF1.out.trans hF))
      | (go_at_call 15; refine hE.out.mono ?_; rintro e w1 ⟨rfl, hF⟩; have hF1 := hid hF)
      | (go_at_call 14; refine (fixed_walk _).mono ?_; rintro e w4 ⟨rfl, hF⟩; have hF4 := hid hF))
    go_ret
    exact ⟨rfl, hF2.out.trans hF4.out⟩

theorem recordOnly_walk (w : World) (a : Option Addr) (n ca : Nat) (l : List (CV × TS)) (ha : ChArg w a n ca l) (b : Option Addr) (m cb : Nat) (r : List (CV × TS)) (hb : ChArg w b m cb r) :
    Calls Try.prog 7 #[.slice a n ca, .slice b m cb] w fun e w' => e = .returned (.bool true) ∧ Fr [] w w' := only_walk w a n ca l ha.ch b m cb r hb.ch
end Go.Proofs.Ytdobbmlaokolmaa
