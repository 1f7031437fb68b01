/-
  record: a change; in, right, has, texts.
-/
import Derived.Test.YtdobbmlaokolmaaPk9
import Derived.Test.YtdobbmlaokolmaaGen2
namespace Go.Proofs.Ytdobbmlaokolmaa
open Go.RowKit
set_option linter.unusedVariables false
set_option linter.unusedSimpArgs false

/-- Strings in a row. -/
def sL : Lay ByteArray where
  f := fun s => [.string s]
  d := ⟨#[]⟩
  sz := 1
  len := fun _ => rfl
  pos := by decide
  one := fun a u hu => by simp at hu; subst hu; rfl

/-- A change. -/
structure CV where
  kind : Int
  n : Int
  job : Int
  badge : Int
  slot : Int
  life : Int
  code : Int
  bits : Int
  prog : ByteArray
  texts : List ByteArray
/-- A texts' slice. -/
structure TS where
  a : Option Addr
  c : Nat
def CV.f (c : CV) (t : TS) : List Value := [.int .i64 c.kind, .int .i64 c.n, .int .i64 c.job, .int .i64 c.badge, .int .i64 c.slot, .int .i64 c.life, .int .i64 c.code, .int .u64 c.bits, .string c.prog, .slice t.a c.texts.length t.c]
def CV.zero : CV := ⟨0, 0, 0, 0, 0, 0, 0, 0, ⟨#[]⟩, []⟩
def cL : Lay (CV × TS) where
  f := fun x => x.1.f x.2
  d := (.zero, ⟨none, 0⟩)
  sz := 10
  len := fun _ => rfl
  pos := by decide
  one := fun a u hu => by simp [CV.f] at hu; rcases hu with rfl | rfl | rfl | rfl | rfl | rfl | rfl | rfl | rfl | rfl <;> rfl

/-! ### What the program's own do -/
def inB (n low high : Int) : Bool := decide (low ≤ n) && decide (n ≤ high)
def rgt (h z m : Bool) : Bool := if h then m else z
/-- A kind's fields. -/
def hasS (k : Int) : ByteArray :=
  if k = 1 then ⟨#[110]⟩ else if k = 2 then ⟨#[106, 112]⟩ else if k = 3 then ⟨#[106, 98, 115]⟩ else if k = 4 then ⟨#[98, 116]⟩ else if k = 5 then ⟨#[98]⟩ else if k = 6 then ⟨#[98, 114]⟩ else ⟨#[]⟩
def hasL (k : Int) (l : UInt8) : Bool := decide (0 ≤ Lib.indexByte (hasS k).data.toList l)
def textsB (l : List ByteArray) : Bool := inB l.length 1 8 && !(l.any fun s => decide (32 < s.size))

theorem in_walk (w : World) (n low high : Int) :
    Calls Try.prog 20 #[.int .i64 n, .int .i64 low, .int .i64 high] w fun e w' => e = .returned (.bool (inB n low high)) ∧ w = w' := by
  unfold inB
  by_cases h1 : low ≤ n
  · by_cases h2 : n ≤ high
    · go_enter Try.func20, Try.ntmps20
      go_wp2
      go_ret
      exact ⟨by simp [h1, h2], rfl⟩
    · go_enter Try.func20, Try.ntmps20
      go_wp2
      go_ret
      exact ⟨by simp [h1, h2], rfl⟩
  · go_enter Try.func20, Try.ntmps20
    go_wp2
    go_ret
    exact ⟨by rw [decide_eq_false (by omega : ¬ low ≤ n)]; rfl, rfl⟩

theorem right_walk (w : World) (h z m : Bool) :
    Calls Try.prog 24 #[.bool h, .bool z, .bool m] w fun e w' => e = .returned (.bool (rgt h z m)) ∧ w = w' := by
  unfold rgt
  cases h
  · go_enter Try.func24, Try.ntmps24
    go_wp2
    go_ret
    exact ⟨rfl, rfl⟩
  · go_enter Try.func24, Try.ntmps24
    go_wp2
    go_ret
    exact ⟨rfl, rfl⟩

theorem has_walk (w : World) (k : Int) :
    Calls Try.prog 23 #[.int .i64 k] w fun e w' => e = .returned (.string (hasS k)) ∧ w = w' := by
  unfold hasS
  by_cases h1 : k = 1
  · subst h1
    go_enter Try.func23, Try.ntmps23
    go_wp2
    go_ret
    exact ⟨rfl, rfl⟩
  by_cases h2 : k = 2
  · subst h2
    go_enter Try.func23, Try.ntmps23
    go_wp2
    go_ret
    exact ⟨rfl, rfl⟩
  by_cases h3 : k = 3
  · subst h3
    go_enter Try.func23, Try.ntmps23
    go_wp2
    go_ret
    exact ⟨rfl, rfl⟩
  by_cases h4 : k = 4
  · subst h4
    go_enter Try.func23, Try.ntmps23
    go_wp2
    go_ret
    exact ⟨rfl, rfl⟩
  by_cases h5 : k = 5
  · subst h5
    go_enter Try.func23, Try.ntmps23
    go_wp2
    go_ret
    exact ⟨rfl, rfl⟩
  by_cases h6 : k = 6
  · subst h6
    go_enter Try.func23, Try.ntmps23
    go_wp2
    go_ret
    exact ⟨rfl, rfl⟩
  have e1 : (k == 1) = false := by rw [beq_eq_false_iff_ne]; exact h1
  have e2 : (k == 2) = false := by rw [beq_eq_false_iff_ne]; exact h2
  have e3 : (k == 3) = false := by rw [beq_eq_false_iff_ne]; exact h3
  have e4 : (k == 4) = false := by rw [beq_eq_false_iff_ne]; exact h4
  have e5 : (k == 5) = false := by rw [beq_eq_false_iff_ne]; exact h5
  have e6 : (k == 6) = false := by rw [beq_eq_false_iff_ne]; exact h6
  rw [if_neg h1, if_neg h2, if_neg h3, if_neg h4, if_neg h5, if_neg h6]
  clear h1 h2 h3 h4 h5 h6
  go_enter Try.func23, Try.ntmps23
  go_wp2
  go_ret
  exact ⟨rfl, rfl⟩

theorem texts1_walk (w : World) (s : ByteArray) :
    Calls Try.prog 43 #[.string s] w fun e w' => e = .returned (.bool (decide (32 < s.size))) ∧ w = w' := by
  go_enter Try.func43, Try.ntmps43
  go_wp2
  all_goals
    go_ret
    exact ⟨by simp; try omega, rfl⟩

theorem enter_texts1 (args : Array Value) (w : World) : (callFunc 43 args).run Try.prog w = .ok (.enter 43 args) w := run_enter Try.func43 (by kernel_rfl) rfl args w

theorem str_cells {w : World} {b o n cap : Nat} {l : List ByteArray} (h : In w 1 (some ⟨b, o, none⟩) n cap (sL.at_ l)) (k : Nat) (hk : k < n) : w.cell? ⟨b, o + k, none⟩ = some (.string (sL.nth l k)) := by
  have c0 := h.cell b o rfl k (by omega)
  rw [show k = k * sL.sz + 0 by show k = k * 1 + 0; omega, sL.at_add _ _ 0 (by decide)] at c0
  simpa [sL, Lay.nth] using c0

theorem index_str (w : World) (b : Option Addr) (cb n : Nat) (l : List ByteArray) (hln : l.length = n) (hb : In w 1 b n cb (sL.at_ l)) (fid : Nat) (cap : Array Value) (p : Nat → Bool) (he : ∀ args wx, (callFunc fid args).run Try.prog wx = .ok (.enter fid args) wx)
    (hf : ∀ k, k < n → Calls Try.prog fid (#[.string (sL.nth l k)] ++ cap) w fun e w' => e = .returned (.bool (p k)) ∧ w = w') :
    Calls Try.prog 63 #[.slice b n cb, .func (.func fid) #[] cap] w fun e w' => ∃ z : Int, e = .returned (.int .i64 z) ∧ w = w' ∧ ((∃ k, k < n ∧ p k = true ∧ (∀ j, j < k → p j = false) ∧ z = k) ∨ (∀ k, k < n → p k = false) ∧ z = -1) := by
  have hmb := hb.max
  have HB := hid hb
  have HF := hid hf
  have HE := hid he
  clear hb hf he
  go_enter Try.func63, Try.ntmps63
  go_wp2_with fail
  go_loopw [8] (fun i wr => ∃ k : Nat, k ≤ n ∧ i = .int .i64 k ∧ (∀ j, j < k → p j = false) ∧ w = wr) (fun i _ => n - (intOf i).toNat)
  case atStart => exact ⟨0, Nat.zero_le _, rfl, fun j hj => absurd hj (Nat.not_lt_zero _), rfl⟩
  case round =>
    obtain ⟨k, hk, rfl, hall, rfl⟩ := hrel
    have HAll := hid hall
    clear hall
    by_cases hlt : k < n
    · obtain ⟨bb, ob, rfl⟩ := HB.out.sm (by omega)
      have c0 := str_cells HB.out k hlt
      have HC := hid (HF.out k hlt)
      generalize hx : sL.nth l k = x at c0 HC
      clear hx
      cases hp : p k
      · rw [hp] at HC
        have HPk := hid hp
        clear hp
        go_wp2_with fail
        rw [HE.out, Oper.upon_enter]
        refine HC.out.mono ?_
        rintro e w1 ⟨rfl, rfl⟩
        go_wp2_with fail
        go_roundw
        case rel => exact ⟨k + 1, by omega, by go_num, fun j hj => by by_cases hjk : j = k; (subst hjk; exact HPk.out); exact HAll.out j (by omega), trivial⟩
        case measure => simp [intOf]; omega
      · rw [hp] at HC
        have HPk := hid hp
        clear hp
        go_wp2_with fail
        rw [HE.out, Oper.upon_enter]
        refine HC.out.mono ?_
        rintro e w1 ⟨rfl, rfl⟩
        go_wp2_with fail
        go_ret
        exact ⟨_, rfl, rfl, .inl ⟨k, hlt, HPk.out, HAll.out, rfl⟩⟩
    · obtain rfl : k = n := by omega
      go_wp2_with fail
      go_ret
      exact ⟨_, rfl, rfl, .inr ⟨HAll.out, rfl⟩⟩

theorem contains_str (w : World) (b : Option Addr) (cb : Nat) (l : List ByteArray) (hb : In w 1 b l.length cb (sL.at_ l)) (fid : Nat) (cap : Array Value) (p : ByteArray → Bool) (he : ∀ args wx, (callFunc fid args).run Try.prog wx = .ok (.enter fid args) wx)
    (hf : ∀ s, Calls Try.prog fid (#[.string s] ++ cap) w fun e w' => e = .returned (.bool (p s)) ∧ w = w') :
    Calls Try.prog 42 #[.slice b l.length cb, .func (.func fid) #[] cap] w fun e w' => e = .returned (.bool (l.any p)) ∧ w = w' := by
  have hc := hid (index_str w b cb l.length l rfl hb fid cap (fun k => p (sL.nth l k)) he (fun k _ => hf _))
  clear hb hf he
  go_enter Try.func42, Try.ntmps42
  go_wp2_with fail
  refine hc.out.mono ?_
  rintro e w1 ⟨z, rfl, rfl, hz⟩
  have hz := hid hz
  go_wp2_with fail
  all_goals
    go_ret
    refine ⟨?_, rfl⟩
    rcases hz.out with ⟨k, hk, hp, _, e⟩ | ⟨hall, e⟩
    · have : l.any p = true := List.any_eq_true.2 ⟨_, sL.mem_nth hk, hp⟩
      subst e
      simp [this]
    · have : l.any p = false := by
        rw [List.any_eq_false]
        intro x hx
        obtain ⟨k, hk, rfl⟩ := List.getElem_of_mem hx
        have := hall k hk
        rw [show sL.nth l k = l[k] from by simp [Lay.nth, List.getD_eq_getElem?_getD, hk]] at this
        simp [this]
      subst e
      simp [this]

theorem texts_walk (w : World) (a : Option Addr) (cap : Nat) (l : List ByteArray) (h : In w 1 a l.length cap (sL.at_ l)) :
    Calls Try.prog 25 #[.slice a l.length cap] w fun e w' => e = .returned (.bool (textsB l)) ∧ w = w' := by
  have hm := h.max
  have hc := hid (contains_str w a cap l h 43 #[] (fun s => decide (32 < s.size)) enter_texts1 (fun s => texts1_walk w s))
  clear h
  unfold textsB
  generalize hx : (l.any fun s => decide (32 < s.size)) = x at hc ⊢
  clear hx
  cases hi : inB (l.length : Int) 1 8
  · go_enter Try.func25, Try.ntmps25
    go_wp2_with (go_at_call 20; refine (in_walk _ _ _ _).mono ?_; rintro e w1 ⟨rfl, rfl⟩; rw [hi])
    go_ret
    exact ⟨rfl, rfl⟩
  · go_enter Try.func25, Try.ntmps25
    go_wp2_with (first | (go_at_call 20; refine (in_walk _ _ _ _).mono ?_; rintro e w1 ⟨rfl, rfl⟩; rw [hi]) | (go_at_call 42; refine hc.out.mono ?_; rintro e w1 ⟨rfl, rfl⟩))
    go_ret
    exact ⟨by simp, rfl⟩

end Go.Proofs.Ytdobbmlaokolmaa
